/- wmem: a memory of words, its contracts. -/
import Derived.Test.YtfglpigoljclbaaHClone
import Derived.Test.YtfglpigoljclbaaHBase
import Derived.Deep.RegionHeld3
import Derived.Deep.DrawnRows
import Derived.Deep.RegionLaw
import Derived.Deep.DeepCutAuto
set_option linter.unusedVariables false
set_option linter.unusedSimpArgs false
namespace Go.Proofs.Ytfglpigoljclbaa.H
open Go.RowKit
attribute [local go_sem ↓] Go.wp_at_zero Go.wp_at_succ

/-- The memory at block g: its words, and how many accesses it has noted; all its blocks lie in S. -/
def MemAt (w : World) (S : Nat → Prop) (g : Nat) (ws : List Int) (n : Nat) : Prop :=
  S g ∧ ∃ vw vn ns, Blk w g #[vw, vn] 117 ∧ Own w S 26 1 vw ws.length (us .u64 ws) ∧ Own w S 141 5 vn n ns

variable {w a b : World} {S T : Nat → Prop} {g n : Nat} {ws : List Int}

theorem Own.far' {e size n : Nat} {v : Value} {xs : List Value} (h : Own w S e size v n xs) {p : Addr} (hp : ¬ v.ownBlock = some p.block) (u : Value) : Own (w.setCell p u) S e size v n xs := by
  have h2 : Own w (fun i => S i ∧ v.ownBlock = some i) e size v n xs := ⟨h.1, fun k hk => ⟨h.2 k hk, hk⟩⟩
  exact (h2.far (fun h => hp h.2) u).wide fun i hi _ => hi.1

theorem MemAt.move (h : MemAt a S g ws n) (hf : Fr T a b) (hd : ∀ i, S i → ¬ T i) : MemAt b S g ws n := by
  obtain ⟨hS, vw, vn, ns, hB, hW, hN⟩ := h
  exact ⟨hS, vw, vn, ns, hf.keep hB (hd g hS), hW.keep hf hd, hN.keep hf hd⟩

theorem MemAt.wide (h : MemAt a S g ws n) (hs : ∀ i, S i → i < a.heap.size → T i) : MemAt a T g ws n := by
  obtain ⟨hS, vw, vn, ns, hB, hW, hN⟩ := h
  exact ⟨hs g hS hB.lt, vw, vn, ns, hB, hW.wide hs, hN.wide hs⟩

theorem New_yes (w : World) (v : Value) (ws : List Int) (hv : Rd w S v (us .u64 ws)) (hl : ws.length ≤ 1024) :
    Calls Try.prog 35 #[v] w fun e w' => ∃ g, e = .returned (.tuple #[.pointer (some ⟨g, 0, none⟩), .int .i64 0]) ∧ MemAt w' (New w.heap.size) g ws 0 ∧ Fr No w w' := by
  have hv0 := hv
  obtain ⟨A, c, rfl, hlc, hcm, _⟩ := hv
  have hli : ¬ (1024 : Int) < (us IntKind.u64 ws).length := by rw [us_len]; omega
  go_enter Try.func35, Try.ntmps35
  go_wp2_with fail
  refine (Clone64 _ S _ (us .u64 ws) hv0 (us_one _ _) (by rw [us_len]; omega)).mono ?_
  rintro e w1 ⟨v1, rfl, hO1, hf1⟩
  obtain ⟨A1, c1, rfl, _, _⟩ := hO1.slice
  go_wp2_with fail
  go_ret2
  rw [us_len] at hO1 ⊢
  have hO := hO1.alloc (.cells #[.slice A1 ws.length c1, .slice none 0 0] 117)
  exact ⟨_, rfl, ⟨hf1.size, _, _, [], blk_new _ _ _, hO, Own.nil _ _ _ _⟩, hf1.alloc _⟩

theorem New_no (w : World) (A : Option Addr) (n c : Nat) (hl : 1024 < n) :
    Calls Try.prog 35 #[.slice A n c] w fun e w' => e = .returned (.tuple #[.pointer none, .int .i64 1]) ∧ Fr No w w' := by
  have hli : (1024 : Int) < n := by omega
  go_enter Try.func35, Try.ntmps35
  go_wp2_with fail
  go_ret2
  exact ⟨rfl, Fr.refl _ _⟩

theorem Count_ (w : World) (h : MemAt w S g ws n) :
    Calls Try.prog 41 #[.pointer (some ⟨g, 0, none⟩)] w fun e w' => e = .returned (.int .i64 n) ∧ w = w' := by
  obtain ⟨_, vw, vn, ns, hB, hW, hN⟩ := h
  obtain ⟨A, c, rfl, _, _⟩ := hN.slice
  have C := hB.cells
  go_enter Try.func41, Try.ntmps41
  go_wp2_with fail
  go_ret
  exact ⟨rfl, rfl⟩

theorem Words_ (w : World) (h : MemAt w S g ws n) (hl : ws.length ≤ 1000000) :
    Calls Try.prog 43 #[.pointer (some ⟨g, 0, none⟩)] w fun e w' => ∃ v, e = .returned v ∧ Own w' (New w.heap.size) 26 1 v ws.length (us .u64 ws) ∧ Fr No w w' := by
  obtain ⟨_, vw, vn, ns, hB, hW, hN⟩ := h
  have C := hB.cells
  go_enter Try.func43, Try.ntmps43
  go_wp2_with fail
  refine (Clone64 _ S _ (us .u64 ws) hW.rd (us_one _ _) (by rw [us_len]; omega)).mono ?_
  rintro e w1 ⟨v1, rfl, hO1, hf1⟩
  go_wp2_with fail
  go_ret
  rw [us_len] at hO1
  exact ⟨_, rfl, hO1, hf1⟩

theorem access_no (w : World) (h : MemAt w S g ws n) (at' : Int) (what : Value) (hat : at' < 0 ∨ (ws.length : Int) ≤ at') :
    Calls Try.prog 89 #[.pointer (some ⟨g, 0, none⟩), .int .i64 at', what] w fun e w' => e = .returned (.tuple #[.agg #[.int .u8 0, .int .i64 0, .int .u64 0, .int .u64 0, .bool false], .int .i64 2]) ∧ Fr No w w' := by
  obtain ⟨_, vw, vn, ns, hB, hW, hN⟩ := h
  obtain ⟨A, c, rfl, _, _⟩ := hW.slice
  have C := hB.cells
  have hlt := hB.lt
  go_enter Try.func89, Try.ntmps89
  by_cases h0 : at' < 0
  · go_wp2_with fail
    refine bodyPost_ret (v := .tuple #[.agg #[.int .u8 0, .int .i64 0, .int .u64 0, .int .u64 0, .bool false], .int .i64 2]) (by simp [results, Try.results89, go_sem]) rfl ⟨rfl, by (repeat (first | exact Fr.refl _ _ | refine Fr.setCell ?_ (.inl (by first | (simp; done) | (simp; omega) | omega)) _ | refine Fr.alloc ?_ _ | refine Fr.drew ?_ | refine Fr.drewN ?_ _ | refine Fr.thenNo ?_ (by assumption)))⟩
  · have h1 : (ws.length : Int) ≤ at' := by omega
    go_wp2_with fail
    refine bodyPost_ret (v := .tuple #[.agg #[.int .u8 0, .int .i64 0, .int .u64 0, .int .u64 0, .bool false], .int .i64 2]) (by simp [results, Try.results89, go_sem]) rfl ⟨rfl, by (repeat (first | exact Fr.refl _ _ | refine Fr.setCell ?_ (.inl (by first | (simp; done) | (simp; omega) | omega)) _ | refine Fr.alloc ?_ _ | refine Fr.drew ?_ | refine Fr.drewN ?_ _ | refine Fr.thenNo ?_ (by assumption)))⟩

theorem info_acc : (Try.prog.info? 141).map (fun i => (i.zero, i.size, i.bytes)) = some (some (.agg #[.int .u8 0, .int .i64 0, .int .u64 0, .int .u64 0, .bool false]), 5, 40) := by kernel_rfl

/-- Behind the store of the word: the access is laid, and not noted yet. -/
def AccMid (w wx : World) (S : Nat → Prop) (g gw cw : Nat) (A : Option Addr) (c n : Nat) (ns : List Value) (ws : List Int) (acc : Array Value) : Prop :=
  Blk wx g #[.slice (some ⟨gw, 0, none⟩) ws.length cw, .slice A n c] 117 ∧ Own wx S 26 1 (.slice (some ⟨gw, 0, none⟩) ws.length cw) ws.length (us .u64 ws) ∧ Own wx S 141 5 (.slice A n c) n ns ∧
  Blk wx w.heap.size #[.int .u8 0, .int .i64 0, .int .u64 0, .int .u64 0, .bool false] 141 ∧ Blk wx (w.heap.size + 1) acc 141 ∧ Fr S w wx

/-- The end of an access: it is noted, and told. -/
theorem acc_end {wc w6 : World} {gw cw c z0 g' cap' : Nat} {A : Option Addr} {ns acc : List Value} {j : Nat} {x : Int} (hSg : S g) (hS0 : w.heap.size ≤ z0) (hf : Fr S w wc) (hN : Own wc S 141 5 (.slice A n c) n ns)
    (hNlt : ∀ k, Value.ownBlock (.slice A n c) = some k → k < w.heap.size) (hW : Own wc S 26 1 (.slice (some ⟨gw, 0, none⟩) ws.length cw) ws.length (us .u64 (ws.set j x)))
    {r0 r1 r2 r3 r4 : Value} (hR : Blk wc z0 #[r0, r1, r2, r3, r4] 141) (hf6 : Fr (Row (.slice A n c)) wc.drew w6)
    (hO6 : Own w6 (Gr S wc.drew) 141 5 (.slice (some ⟨g', 0, none⟩) (n + 1) cap') (n + 1) (ns ++ acc)) (hr6 : Value.ownBlock (.slice A n c) = some g' ∨ wc.drew.heap.size ≤ g')
    (hB6 : Blk w6 g #[.slice (some ⟨gw, 0, none⟩) ws.length cw, .slice A n c] 117) (hR6 : Blk w6 z0 #[r0, r1, r2, r3, r4] 141)
    (a0 a1 a2 a3 a4 : Value) (hl : j < ws.length) :
    Blk ((((((w6.setCell ⟨g, 1, none⟩ (.slice (some ⟨g', 0, none⟩) (n + 1) cap')).setCell ⟨z0, 0, none⟩ a0).setCell ⟨z0, 1, none⟩ a1).setCell ⟨z0, 2, none⟩ a2).setCell ⟨z0, 3, none⟩ a3).setCell ⟨z0, 4, none⟩ a4) z0 #[a0, a1, a2, a3, a4] 141 ∧
    MemAt ((((((w6.setCell ⟨g, 1, none⟩ (.slice (some ⟨g', 0, none⟩) (n + 1) cap')).setCell ⟨z0, 0, none⟩ a0).setCell ⟨z0, 1, none⟩ a1).setCell ⟨z0, 2, none⟩ a2).setCell ⟨z0, 3, none⟩ a3).setCell ⟨z0, 4, none⟩ a4) (Gr S w) g (ws.set j x) (n + 1) ∧
    Fr S w ((((((w6.setCell ⟨g, 1, none⟩ (.slice (some ⟨g', 0, none⟩) (n + 1) cap')).setCell ⟨z0, 0, none⟩ a0).setCell ⟨z0, 1, none⟩ a1).setCell ⟨z0, 2, none⟩ a2).setCell ⟨z0, 3, none⟩ a3).setCell ⟨z0, 4, none⟩ a4) := by
  have m1 : z0 ≠ g := blk_ne hR6 hB6 (by decide)
  have m4 : g ≠ z0 := Ne.symm m1
  have hAc0 : ¬ Value.ownBlock (.slice A n c) = some z0 := fun e => by have := hNlt _ e; omega
  have hW6 := hW.drew.keepRow hN.drew hf6 (by decide)
  have n1 : gw ≠ g := fun e => hW6.ne hB6 (by decide) (by rw [e]; rfl)
  have n2 : gw ≠ z0 := fun e => hW6.ne hR6 (by decide) (by rw [e]; rfl)
  have q1 : ¬ g' = g := fun e => hO6.ne hB6 (by decide) (by rw [e]; rfl)
  have q2 : ¬ g' = z0 := by
    rintro rfl
    rcases hr6 with h | h
    · exact hAc0 h
    · have := hR.lt; simp only [World.size_drew] at h; omega
  have hR7 := (((((hR6.far (p := ⟨g, 1, none⟩) m1 (.slice (some ⟨g', 0, none⟩) (n + 1) cap')).set 0 a0).set 1 a1).set 2 a2).set 3 a3).set 4 a4
  have hB7 := (((((hB6.set 1 (.slice (some ⟨g', 0, none⟩) (n + 1) cap')).far (p := ⟨z0, 0, none⟩) m4 a0).far (p := ⟨z0, 1, none⟩) m4 a1).far (p := ⟨z0, 2, none⟩) m4 a2).far (p := ⟨z0, 3, none⟩) m4 a3).far (p := ⟨z0, 4, none⟩) m4 a4
  have e1 : ∀ k, ¬ Value.ownBlock (.slice (some ⟨gw, 0, none⟩) ws.length cw) = some (⟨z0, k, none⟩ : Addr).block := fun k e => n2 (by simpa [Value.ownBlock] using e)
  have e2 : ∀ k, ¬ Value.ownBlock (.slice (some ⟨g', 0, none⟩) (n + 1) cap') = some (⟨z0, k, none⟩ : Addr).block := fun k e => q2 (by simpa [Value.ownBlock] using e)
  have hW7 := (((((hW6.far' (p := ⟨g, 1, none⟩) (fun e => n1 (by simpa [Value.ownBlock] using e)) (.slice (some ⟨g', 0, none⟩) (n + 1) cap')).far' (e1 0) a0).far' (e1 1) a1).far' (e1 2) a2).far' (e1 3) a3).far' (e1 4) a4
  have hN7 := (((((hO6.far' (p := ⟨g, 1, none⟩) (fun e => q1 (by simpa [Value.ownBlock] using e)) (.slice (some ⟨g', 0, none⟩) (n + 1) cap')).far' (e2 0) a0).far' (e2 1) a1).far' (e2 2) a2).far' (e2 3) a3).far' (e2 4) a4
  have hf7 := (((((((hf.drew.trans hf6 (fun i _ h => hN.2 i h)).setCell (p := ⟨g, 1, none⟩) (.inr hSg) (.slice (some ⟨g', 0, none⟩) (n + 1) cap')).setCell (p := ⟨z0, 0, none⟩) (.inl hS0) a0).setCell (p := ⟨z0, 1, none⟩) (.inl hS0) a1).setCell (p := ⟨z0, 2, none⟩) (.inl hS0) a2).setCell (p := ⟨z0, 3, none⟩) (.inl hS0) a3).setCell (p := ⟨z0, 4, none⟩) (.inl hS0) a4)
  refine ⟨hR7, ⟨.inl hSg, _, _, ns ++ acc, hB7, ?_, ?_⟩, hf7⟩
  · rw [List.length_set]; exact hW7.wide (fun i hi _ => .inl hi)
  · exact hN7.wide (fun i hi _ => by rcases hi with hi | hi; exact .inl hi; have := hf.size; simp only [World.size_drew] at hi; exact .inr (by omega))

set_option maxHeartbeats 2000000 in
theorem access_load (w : World) (h : MemAt w S g ws n) (at' : Int) (h0 : 0 ≤ at') (h1 : at' < (ws.length : Int)) (hn : n ≤ 1000000) :
    Calls Try.prog 89 #[.pointer (some ⟨g, 0, none⟩), .int .i64 at', .iface 165 (.agg #[])] w fun e w' =>
      e = .returned (.tuple #[.agg #[.int .u8 108, .int .i64 at', .int .u64 (ws.getD at'.toNat 0), .int .u64 (ws.getD at'.toNat 0), .bool true], .int .i64 0]) ∧ MemAt w' (Gr S w) g (ws.set at'.toNat (ws.getD at'.toNat 0)) (n + 1) ∧ Fr S w w' := by
  obtain ⟨hSg, vw, vn, ns, hB, hW, hN⟩ := h
  have hl : at'.toNat < ws.length := by omega
  obtain ⟨gw, cw, rfl, hSw, hgw, hcw, hcell, hfree⟩ := hW.form (by omega)
  obtain ⟨A, c, rfl, _, _⟩ := hN.slice
  have C := hB.cells
  have hlt := hB.lt
  have ck := hcell at'.toNat (by rw [us_len]; exact hl)
  rw [us_get _ _ _ hl] at ck
  obtain ⟨x, hx⟩ : ∃ x, x = ws.getD at'.toNat 0 := ⟨_, rfl⟩
  rw [← hx] at ck ⊢
  have HX := Lib.hid hx
  clear hx
  have k0 := C 0
  simp at k0
  have q0 : ∀ w, (Instr.typeAssert (.iface 165 (.agg #[])) 20 165 true).run Try.prog w = .ok (.tuple #[.agg #[], .bool true]) w := fun w => by kernel_rfl
  clear hcell C
  go_enter Try.func89, Try.ntmps89
  go_wp2_with fail
  go_region_held3 (fun w' => w'.cell? ⟨g, 0, none⟩ = some (.slice (some ⟨gw, 0, none⟩) ws.length cw) ∧ w'.cell? ⟨gw, at'.toNat, none⟩ = some (.int .u64 x)) (first | (go_keep; done) | (go_split_ands; (repeat' apply And.intro) <;> first | assumption | (refine (Fr.cell (S := No) (by assumption) (by first | (simp; done) | (simp; omega) | omega) id).trans ?_; first | assumption | (simp; done) | (simp; assumption)) | (refine (Fr.frozen (S := No) (by assumption) (by first | (simp; done) | (simp; omega) | omega) id).trans ?_; first | assumption | (simp; done) | (simp; assumption)))) (fail)
  go_wp2_with fail
  obtain ⟨w3, hw3⟩ : ∃ w3, w3 = (((w.alloc (.cells #[.int .u8 0, .int .i64 0, .int .u64 0, .int .u64 0, .bool false] 141)).alloc (.cells #[.int .u8 108, .int .i64 at', .int .u64 x, .int .u64 x, .bool true] 141)).alloc (.cells #[] 165)).drew := ⟨_, rfl⟩
  rw [← hw3]
  have H3 : AccMid w w3 S g gw cw A c n ns ws #[.int .u8 108, .int .i64 at', .int .u64 x, .int .u64 x, .bool true] := by
    subst hw3
    exact ⟨(((hB.alloc _).alloc _).alloc _).drew, (((hW.alloc _).alloc _).alloc _).drew, (((hN.alloc _).alloc _).alloc _).drew, (((blk_new _ _ _).alloc _).alloc _).drew, ((blk_at _ (by simp)).alloc _).drew, by (repeat (first | exact Fr.refl _ _ | refine Fr.setCell ?_ (.inl (by first | (simp; done) | (simp; omega) | omega)) _ | refine Fr.alloc ?_ _ | refine Fr.drew ?_ | refine Fr.drewN ?_ _ | refine Fr.thenNo ?_ (by assumption)))⟩
  have hNlt := hN.lt
  clear hw3 hB hW hN ck k0 hfree
  obtain ⟨z1, hz1⟩ : ∃ z1, z1 = w.heap.size + 1 := ⟨_, rfl⟩
  obtain ⟨z0, hz0⟩ : ∃ z0, z0 = w.heap.size := ⟨_, rfl⟩
  have H3' := H3
  unfold AccMid at H3'
  rw [← hz1, ← hz0] at H3'
  rw [← hz1, ← hz0]
  obtain ⟨hB, hW, hN, hR, hA, hf⟩ := H3'
  have n1 : gw ≠ g := fun e => hW.ne hB (by decide) (by rw [e]; rfl)
  have n2 : gw ≠ z0 := by omega
  have n3 : gw ≠ z1 := by omega
  have HZ1 := Lib.hid hz1
  have HZ0 := Lib.hid hz0
  clear hz1 hz0
  have CB := hB.cells
  have CA := hA.cells
  have k0 := CB 0
  have k1 := CA 3
  simp at k0 k1
  obtain ⟨gw', cw', hvw, _, _, _, hcell, hfree⟩ := hW.form (by omega)
  cases hvw
  have ck := hcell at'.toNat (by rw [us_len]; exact hl)
  rw [us_get _ _ _ hl, ← HX.out] at ck
  have F0 := hfree at'.toNat
  clear CB CA hcell hfree
  go_cut [] (fun wx => AccMid w wx S g gw cw A c n ns (ws.set at'.toNat x) #[.int .u8 108, .int .i64 at', .int .u64 x, .int .u64 x, .bool true])
  case first =>
    go_region_held3 (fun w' => w'.cell? ⟨g, 0, none⟩ = some (.slice (some ⟨gw, 0, none⟩) ws.length cw) ∧ w'.cell? ⟨z1, 3, none⟩ = some (.int .u64 x)) (first | (go_keep; done) | (go_split_ands; (repeat' apply And.intro) <;> first | assumption | (refine (Fr.cell (S := No) (by assumption) (by first | (simp; done) | (simp; omega) | omega) id).trans ?_; first | assumption | (simp; done) | (simp; assumption)) | (refine (Fr.frozen (S := No) (by assumption) (by first | (simp; done) | (simp; omega) | omega) id).trans ?_; first | assumption | (simp; done) | (simp; assumption)))) (fail)
    go_wp2_with fail
    go_meet
    have W := hW.set at'.toNat (.int .u64 x) (by rw [us_len]; exact hl)
    rw [us_set] at W
    refine ⟨?_, ?_, (hN.apart hW (by decide) _).drew, ?_, ?_, (hf.setCell (.inr hSw) _).drew⟩
    · rw [List.length_set]; exact (hB.far (Ne.symm n1) _).drew
    · rw [List.length_set]; exact W.drew
    · rw [← HZ0.out]; exact (hR.far (Ne.symm n2) _).drew
    · rw [← HZ1.out]; exact (hA.far (Ne.symm n3) _).drew
  case rest =>
    clear hB hW hN hR hA hf H3 k0 k1 ck F0
    unfold AccMid at hcut
    rw [← HZ1.out, ← HZ0.out, List.length_set] at hcut
    obtain ⟨hB, hW, hN, hR, hA, hf⟩ := hcut
    have CB := hB.cells
    have CA := hA.cells
    have FB := hB.free
    have hAc : ¬ Value.ownBlock (.slice A n c) = some g := hN.ne hB (by decide)
    have hBl := hB.lt
    have hAc0 : ¬ Value.ownBlock (.slice A n c) = some z0 := fun e => by have := hNlt _ e; have := HZ0.out; omega
    have hAc1 : ¬ Value.ownBlock (.slice A n c) = some z1 := fun e => by have := hNlt _ e; have := HZ1.out; omega
    have hS0 : w.heap.size ≤ z0 := by have := HZ0.out; omega
    have m1 : z0 ≠ g := by have := HZ0.out; omega
    have m2 : z1 ≠ g := by have := HZ1.out; omega
    have m3 : z0 ≠ z1 := by have := HZ1.out; have := HZ0.out; omega
    have m4 := Ne.symm m1
    have m5 := Ne.symm m2
    have m6 := Ne.symm m3
    go_wp2_with fail
    go_region_law ((refine step_append_1 (w := wc.drew) rfl _ _ 115 141 (.agg #[.int .u8 0, .int .i64 0, .int .u64 0, .int .u64 0, .bool false]) 40 rfl Try.underlying115 info_acc rfl (by decide) (by decide) hN.drew rfl #[.int .u8 108, .int .i64 at', .int .u64 x, .int .u64 x, .bool true] _ rfl rfl rfl (by simp [Value.oneCell']) (by omega) ?_; intro g' cap' w6 hO6 hf6 hr6; have hB6 := hf6.keep hB.drew hAc; have C6 := hB6.cells; have F6 := hB6.free; have hR6 := hf6.keep hR.drew hAc0; have hA6 := hf6.keep hA.drew hAc1; have CR6 := hR6.cells; have FR6 := hR6.free; have CA6 := hA6.cells))
    all_goals
      go_wp2_with fail
      obtain ⟨hR7, hM7, hf7⟩ := acc_end hSg hS0 hf hN hNlt hW hR hf6 hO6 hr6 hB6 hR6 (.int .u8 108) (.int .i64 at') (.int .u64 x) (.int .u64 x) (.bool true) hl
      have CR7 := hR7.cells
      simp at CR7
      exact bodyPost_ret (v := .tuple #[.agg #[.int .u8 108, .int .i64 at', .int .u64 x, .int .u64 x, .bool true], .int .i64 0]) (by simp [results, Try.results89, go_sem, CR7]) rfl ⟨rfl, hM7, hf7⟩
end Go.Proofs.Ytfglpigoljclbaa.H
