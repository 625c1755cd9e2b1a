/- Law 21's BoundGrows: a try more, or slots, or a thread, makes no bound less. -/
import Derived.Test.YtfglpigoljclbaaHBound
import Derived.Test.YtfglpigoljclbaaHPick
set_option linter.unusedVariables false
set_option linter.unusedSimpArgs false
namespace Go.Proofs.Ytfglpigoljclbaa.H
open Go.RowKit
attribute [local go_sem ↓] Go.wp_at_zero Go.wp_at_succ


theorem config21_ (w : World) (a b c d : Int) (ha : I64 a) (hb : I64 b) (hc : I64 c) (hd : I64 d) :
    Calls Try.prog 16 #[.int .i64 a, .int .i64 b, .int .i64 c, .int .i64 d] w fun e w' => e = .returned (ecfg (1 + pickV a 6) (pickV b 4) 0 5 (pickV c 17) (1 + pickV d 64) 1152921504606846976) ∧ Fr No w w' := by
  obtain ⟨a0, a1⟩ := ha
  obtain ⟨b0, b1⟩ := hb
  obtain ⟨c0, c1⟩ := hc
  obtain ⟨d0, d1⟩ := hd
  obtain ⟨A, hA⟩ : ∃ A, A = pickV a 6 := ⟨_, rfl⟩
  have hA2 := pickV_bd a 6 (by omega)
  rw [← hA] at hA2 ⊢
  have HA := Lib.hid hA
  clear hA
  obtain ⟨D, hD⟩ : ∃ D, D = pickV d 64 := ⟨_, rfl⟩
  have hD2 := pickV_bd d 64 (by omega)
  rw [← hD] at hD2 ⊢
  have HD := Lib.hid hD
  clear hD
  go_enter Try.func16, Try.ntmps16
  go_wp2_with fail
  refine (pick21_ _ _ _ a0 a1 (by omega) (by omega)).mono ?_
  rintro e w1 ⟨rfl, rfl⟩
  rw [← HA.out]
  go_wp2_with fail
  refine (pick21_ _ _ _ b0 b1 (by omega) (by omega)).mono ?_
  rintro e w1 ⟨rfl, rfl⟩
  go_wp2_with fail
  refine (pick21_ _ _ _ c0 c1 (by omega) (by omega)).mono ?_
  rintro e w1 ⟨rfl, rfl⟩
  go_wp2_with fail
  refine (pick21_ _ _ _ d0 d1 (by omega) (by omega)).mono ?_
  rintro e w1 ⟨rfl, rfl⟩
  rw [← HD.out]
  go_wp2_with fail
  refine bodyPost_ret (v := ecfg (1 + A) (pickV b 4) 0 5 (pickV c 17) (1 + D) 1152921504606846976) (by simp [results, Try.results16, go_sem]) rfl ⟨rfl, ?_⟩
  (repeat (first | exact Fr.refl _ _ | refine Fr.setCell ?_ (.inl (by first | (simp; done) | (simp; omega) | omega)) _ | refine Fr.alloc ?_ _ | refine Fr.drew ?_ | refine Fr.drewN ?_ _ | refine Fr.thenNo ?_ (by assumption)))

theorem i64_0 : I64 0 := by unfold I64; omega
theorem i64_1 : I64 1 := by unfold I64; omega
theorem i64_2 : I64 2 := by unfold I64; omega

theorem ok_a : ecfgOk 2 0 0 0 1 := by unfold ecfgOk cfgOk; omega
theorem ok_b : ecfgOk 2 1 0 2 1 := by unfold ecfgOk cfgOk; omega

set_option maxHeartbeats 4000000 in
theorem shown21_ (w : World) : Calls Try.prog 15 #[] w fun e w' => e = .returned (.bool true) ∧ Fr No w w' := by
  go_enter Try.func15, Try.ntmps15
  go_wp2_with fail
  refine (config21_ _ _ _ _ _ i64_1 i64_0 i64_0 i64_0).mono ?_
  rintro e w1 ⟨rfl, hf1⟩
  rw [show (1 + pickV 1 6) = 2 from rfl, show pickV 0 4 = 0 from rfl, show pickV 0 17 = 0 from rfl, show (1 + pickV 0 64) = 1 from rfl]
  go_wp2_with fail
  refine (config21_ _ _ _ _ _ i64_1 i64_1 i64_2 i64_0).mono ?_
  rintro e w2 ⟨rfl, hf2⟩
  rw [show (1 + pickV 1 6) = 2 from rfl, show pickV 1 4 = 1 from rfl, show pickV 2 17 = 2 from rfl, show (1 + pickV 0 64) = 1 from rfl]
  have Ba2 := (hf2.keepNo (blk_at w1 (cs := ecells 2 0 0 5 0 1 1152921504606846976) (t := 28) rfl)).alloc (.cells (ecells 2 1 0 5 2 1 1152921504606846976) 28)
  have Bb2 := blk_at w2 (cs := ecells 2 1 0 5 2 1 1152921504606846976) (t := 28) rfl
  have Ca := (hf2.keepNo (blk_at w1 (cs := ecells 2 0 0 5 0 1 1152921504606846976) (t := 28) rfl)).cells
  have Z2 := hf2.size
  simp only [World.size_alloc] at Z2
  have Z2' : w1.heap.size < w2.heap.size := by omega
  go_wp2_with fail
  clear Ca Z2
  refine (Push_yes _ _ _ _ _ _ _ _ ok_a).mono ?_
  rintro e w3 ⟨rfl, hf3⟩
  rw [show pushV 0 0 = 10 from rfl]
  have Ba3 := hf3.keepNo Ba2
  have Bb3 := hf3.keepNo Bb2
  have Ca := Ba3.cells
  have Cb := Bb3.cells
  clear Ba2 Bb2
  go_wp2_with fail
  clear Ca Cb
  refine (Pop_yes _ _ _ _ _ _ _ _ ok_a).mono ?_
  rintro e w4 ⟨rfl, hf4⟩
  rw [show popV 0 0 = 7 from rfl]
  have Ba4 := hf4.keepNo Ba3
  have Bb4 := hf4.keepNo Bb3
  have Ca := Ba4.cells
  have Cb := Bb4.cells
  clear Ba3 Bb3
  go_wp2_with fail
  clear Ca Cb
  refine (Push_yes _ _ _ _ _ _ _ _ ok_b).mono ?_
  rintro e w5 ⟨rfl, hf5⟩
  rw [show pushV 2 1 = 166 from rfl]
  have Ba5 := hf5.keepNo Ba4
  have Bb5 := hf5.keepNo Bb4
  have Ca := Ba5.cells
  have Cb := Bb5.cells
  clear Ba4 Bb4
  go_wp2_with fail
  clear Ca Cb
  refine (Pop_yes _ _ _ _ _ _ _ _ ok_b).mono ?_
  rintro e w6 ⟨rfl, hf6⟩
  rw [show popV 2 1 = 157 from rfl]
  have Ba6 := hf6.keepNo Ba5
  have Bb6 := hf6.keepNo Bb5
  have Ca := Ba6.cells
  have Cb := Bb6.cells
  clear Ba5 Bb5
  go_wp2_with fail
  clear Ca Cb
  refine (Window_yes _ _ _ _ _ _ _ 3 ok_a (by omega) (by omega)).mono ?_
  rintro e w7 ⟨rfl, hf7⟩
  rw [show 3 * pushV 0 0 = 30 from rfl]
  go_wp2_with fail
  go_ret
  exact ⟨rfl, by (repeat (first | exact Fr.refl _ _ | refine Fr.setCell ?_ (.inl (by first | (simp; done) | (simp; omega) | omega)) _ | refine Fr.alloc ?_ _ | refine Fr.drew ?_ | refine Fr.drewN ?_ _ | refine Fr.thenNo ?_ (by assumption)))⟩


theorem grow1 (B s : Int) : decide (pushV B s < pushV (B + 1) s) = true := by
  have := visitV_bd s
  unfold pushV
  rw [Int.add_mul]
  simp
  omega
theorem grow2 (B s : Int) : decide (popV B s < popV (B + 1) s) = true := by
  have := visitV_bd s
  unfold popV
  rw [Int.add_mul]
  simp
  omega
theorem grow3 (B s : Int) (h : 0 ≤ B) : decide (pushV B s ≤ pushV B 3) = true := by
  have h1 : B * visitV s ≤ B * visitV 3 := Int.mul_le_mul_of_nonneg_left (visitV_bd s).2 h
  unfold pushV
  simp
  omega
theorem grow4 (B s : Int) (h : 0 ≤ B) : decide (popV B s < pushV B s) = true := by
  unfold pushV popV
  simp
  omega

set_option maxRecDepth 100000 in
set_option maxHeartbeats 8000000 in
theorem BoundGrows_ (w : World) (a b c d : Int) (ha : I64 a) (hb : I64 b) (hc : I64 c) (hd : I64 d) :
    Calls Try.prog 3 #[.int .i64 a, .int .i64 b, .int .i64 c, .int .i64 d] w fun e w' => e = .returned (.bool true) ∧ Fr No w w' := by
  have hn := pickV_bd a 6 (by omega)
  have hs := pickV_bd b 4 (by omega)
  have hB := pickV_bd c 16 (by omega)
  have hm := pickV_bd d 1000 (by omega)
  obtain ⟨c0, c1⟩ := hc
  obtain ⟨d0, d1⟩ := hd
  go_enter Try.func3, Try.ntmps3
  go_wp2_with fail
  refine (shown21_ _).mono ?_
  rintro e w1 ⟨rfl, hf1⟩
  go_wp2_with fail
  refine (config21_ _ _ _ _ _ ha hb ⟨c0, c1⟩ i64_1).mono ?_
  rintro e w2 ⟨rfl, hf2⟩
  rw [show (1 + pickV 1 64) = 2 from rfl]
  obtain ⟨n, hn'⟩ : ∃ n, n = 1 + pickV a 6 := ⟨_, rfl⟩
  obtain ⟨s, hs'⟩ : ∃ s, s = pickV b 4 := ⟨_, rfl⟩
  obtain ⟨B, hB'⟩ : ∃ B, B = pickV c 16 := ⟨_, rfl⟩
  obtain ⟨m, hm'⟩ : ∃ m, m = pickV d 1000 := ⟨_, rfl⟩
  rw [← hn', ← hs']
  have hnb : 1 ≤ n ∧ n ≤ 6 := by omega
  rw [← hs'] at hs
  rw [← hB'] at hB
  rw [← hm'] at hm
  have HB := Lib.hid hB'
  have HM := Lib.hid hm'
  clear hn' hs' hB' hm' hn
  go_wp2_with fail
  refine (pick21_ _ _ _ c0 c1 (by omega) (by omega)).mono ?_
  rintro e w3 ⟨rfl, rfl⟩
  rw [← HB.out]
  go_wp2_with fail
  refine (pick21_ _ _ _ d0 d1 (by omega) (by omega)).mono ?_
  rintro e w3 ⟨rfl, rfl⟩
  rw [← HM.out]
  have ok1 : ecfgOk n s 0 B 2 := by unfold ecfgOk cfgOk; omega
  have ok2 : ecfgOk n s 0 (B + 1) 2 := by unfold ecfgOk cfgOk; omega
  have ok3 : ecfgOk n 3 0 B 2 := by unfold ecfgOk cfgOk; omega
  go_wp2_with fail
  have E0 := (((blk_at w2 (cs := ecells n s 0 5 B 2 1152921504606846976) (t := 28) rfl).alloc (.cells (ecells n s 0 5 (B + 1) 2 1152921504606846976) 28)).alloc (.cells (ecells n 3 0 5 B 2 1152921504606846976) 28)).cells
  have E1 := ((blk_at (w2.alloc (.cells (ecells n s 0 5 B 2 1152921504606846976) 28)) (k := w2.heap.size + 1) (cs := ecells n s 0 5 (B + 1) 2 1152921504606846976) (t := 28) (by simp)).alloc (.cells (ecells n 3 0 5 B 2 1152921504606846976) 28)).cells
  have E2 := (blk_at ((w2.alloc (.cells (ecells n s 0 5 B 2 1152921504606846976) 28)).alloc (.cells (ecells n s 0 5 (B + 1) 2 1152921504606846976) 28)) (k := w2.heap.size + 1 + 1) (cs := ecells n 3 0 5 B 2 1152921504606846976) (t := 28) (by simp)).cells
  have hfw : Fr No w (((w2.alloc (.cells (ecells n s 0 5 B 2 1152921504606846976) 28)).alloc (.cells (ecells n s 0 5 (B + 1) 2 1152921504606846976) 28)).alloc (.cells (ecells n 3 0 5 B 2 1152921504606846976) 28)) := (((hf1.then hf2).alloc _).alloc _).alloc _
  have hZ : w2.heap.size + 3 ≤ (((w2.alloc (.cells (ecells n s 0 5 B 2 1152921504606846976) 28)).alloc (.cells (ecells n s 0 5 (B + 1) 2 1152921504606846976) 28)).alloc (.cells (ecells n 3 0 5 B 2 1152921504606846976) 28)).heap.size := by simp
  generalize (((w2.alloc (.cells (ecells n s 0 5 B 2 1152921504606846976) 28)).alloc (.cells (ecells n s 0 5 (B + 1) 2 1152921504606846976) 28)).alloc (.cells (ecells n 3 0 5 B 2 1152921504606846976) 28)) = wx at *
  clear hf1 hf2
  generalize w2.heap.size = H at *
  have p1 := pushV_bd B s (by omega) (by omega)
  have p2 := popV_bd B s (by omega) (by omega)
  have q1 := grow1 B s
  have q2 := grow2 B s
  have q3 := grow3 B s hB.1
  have q9 := grow4 B s hB.1
  have hmP : 0 ≤ m * pushV B s ∧ m * pushV B s ≤ 1000 * 2000 := ⟨Int.mul_nonneg hm.1 p1.1, Int.mul_le_mul (by omega) p1.2 p1.1 (by omega)⟩
  have q4 : IntKind.i64.wrap (m * pushV B s + pushV B s) = m * pushV B s + pushV B s := IntWalk.i64_in _ (by omega)
  have q5 : ((m + 1) * pushV B s == m * pushV B s + pushV B s) = true := by rw [Int.add_mul, Int.one_mul]; simp
  have q6 : IntKind.i64.wrap (m + 1) = m + 1 := IntWalk.i64_in _ (by omega)
  have q7 : IntKind.i64.wrap (popV B s + 1) = popV B s + 1 := IntWalk.i64_in _ (by omega)
  have q8 : decide (pushV B s < pushV B s + 3) = true := by simp; omega
  go_region_held3 (fun w' => (∀ i, w'.cell? ⟨H, i, none⟩ = (ecells n s 0 5 B 2 1152921504606846976)[i]?) ∧ (∀ i, w'.cell? ⟨H + 1, i, none⟩ = (ecells n s 0 5 (B + 1) 2 1152921504606846976)[i]?) ∧ (∀ i, w'.cell? ⟨H + 1 + 1, i, none⟩ = (ecells n 3 0 5 B 2 1152921504606846976)[i]?))
    (first | (go_keep; done) | (go_split_ands; (repeat' apply And.intro) <;> first | assumption | (intro i; rw [World.cell?_drew]; revert i; assumption) | (intro i; refine (Fr.cell (S := No) (by assumption) (by first | (simp; done) | (simp; omega) | omega) id).trans ?_; first | (revert i; assumption) | (simp only [World.cell?_drew]; revert i; assumption))))
    (first | ((go_at_call 18; refine (Push_yes _ _ _ _ _ _ _ _ (by assumption)).mono ?_; rintro e w5 ⟨rfl, hf5⟩; have z5 := hf5.size; (try simp only [World.size_drew, World.size_alloc] at z5))) | ((go_at_call 19; refine (Pop_yes _ _ _ _ _ _ _ _ (by assumption)).mono ?_; rintro e w5 ⟨rfl, hf5⟩; have z5 := hf5.size; (try simp only [World.size_drew, World.size_alloc] at z5))) | ((go_at_call 20; refine (Window_yes _ _ _ _ _ _ _ _ ok1 (by omega) (by omega)).mono ?_; rintro e w5 ⟨rfl, hf5⟩; have z5 := hf5.size; (try simp only [World.size_drew, World.size_alloc] at z5))) | ((go_at_call 21; refine (Acquire_yes _ _ _ _ _ _ _ _ ok1).mono ?_; rintro e w5 ⟨rfl, hf5⟩; have z5 := hf5.size; (try simp only [World.size_drew, World.size_alloc] at z5))) | ((go_at_call 22; refine (Release_yes _ _ _ _ _ _ _ _ ok1).mono ?_; rintro e w5 ⟨rfl, hf5⟩; have z5 := hf5.size; (try simp only [World.size_drew, World.size_alloc] at z5))))
  go_wp2_with fail
  go_ret
  exact ⟨rfl, by (repeat (first | exact Fr.refl _ _ | refine Fr.setCell ?_ (.inl (by first | (simp; done) | (simp; omega) | omega)) _ | refine Fr.alloc ?_ _ | refine Fr.drew ?_ | refine Fr.drewN ?_ _ | refine Fr.thenNo ?_ (by assumption)))⟩

end Go.Proofs.Ytfglpigoljclbaa.H
