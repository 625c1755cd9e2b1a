/- Law 8's made: a machine of a job, and the document's. -/
import Derived.Test.YtfglpigoljclbaaHArnStep
import Derived.Deep.RegionHeld3
set_option linter.unusedVariables false
set_option linter.unusedSimpArgs false
namespace Go.Proofs.Ytfglpigoljclbaa.H
open Go.RowKit
attribute [local go_sem ↓] Go.wp_at_zero Go.wp_at_succ
variable {w w' a b wr : World} {S T : Nat → Prop} {g gm gB gr k c c' kM kX kI kR j D : Nat} {ws ws' : List Int} {m m' : Mch} {n s h t : Int} {L L' : Nat → Nat} {vt vg : Value}

section
variable {P : Program} {ops : Array Oper} {rest : List Oper} {o : Oper} {act : Act} {Q : Exit → Act → World → Prop} {e size N : Nat} {v xv : Value} {xs news : List Value}
/-- Nothing is appended by a nil slice. -/
theorem run_append_none (t ty el : TypeId) (z : Value) (bytes : Nat)
    (ht : P.underlying t = some (.slice el)) (hinfo : (P.info? el).map (fun i => (i.zero, i.size, i.bytes)) = some (some z, size, bytes))
    (HO : Own w S el size v N xs) (cc : Nat) : (Builtin.append_ #[t, t] ty #[v, .slice none 0 cc]).run P w = .ok v w := by
  obtain ⟨i0, hi, hzz⟩ := Option.map_eq_some_iff.1 hinfo
  obtain ⟨A, cap, rfl, h1, h2⟩ := HO.slice
  cases A <;> simp [Builtin.append_, run_underlying ht, sizeOf, typeInfo, hi, Builtin.lenOf, Builtin.firstCells, storeCells, h1]

/-- The run of an append of a slice that reads as news onto an owned slice. -/
theorem run_append_rd (t ty el : TypeId) (z : Value) (bytes : Nat)
    (ht : P.underlying t = some (.slice el)) (hinfo : (P.info? el).map (fun i => (i.zero, i.size, i.bytes)) = some (some z, 1, bytes)) (hz : z.cells.size = 1)
    (HO : Own w S el 1 v N xs) (HR : Rd w T xv news) (h1 : ∀ u ∈ news, u.oneCell' = true)
    (h63 : N + news.length ≤ maxLen) (hb : (N + news.length) * bytes ≤ 140737488355328) :
    ∃ v' w', (Builtin.append_ #[t, t] ty #[v, xv]).run P w = .ok v' w' ∧ Own w' (Gr S w) el 1 v' (N + news.length) (xs ++ news) ∧ Fr (Row v) w w' := by
  obtain ⟨A, cc, rfl, hl, hm, hc⟩ := HR
  cases A with
  | none =>
    have hx : news = [] := by
      cases news with
      | nil => rfl
      | cons x l => obtain ⟨g, o, hA, _⟩ := hc (by simp); cases hA
    subst hx
    refine ⟨v, w, run_append_none t ty el z bytes ht hinfo HO cc, ?_, Fr.refl _ _⟩
    simpa using HO.gr
  | some ad =>
    have hnews : ∀ j u, news[j]? = some u → w.cell? (ad.add j) = some u := by
      intro j u hj
      have hlt := (List.getElem?_eq_some_iff.1 hj).1
      obtain ⟨g, o, hA, hS, hcc⟩ := hc (by omega)
      cases hA
      have e : ((⟨g, o, none⟩ : Addr).add j) = ⟨g, o + j, none⟩ := by unfold Addr.add; split <;> simp_all
      rw [e, hcc j hlt]
      exact hj
    obtain ⟨v', w', hr, h2, h3, _⟩ := run_append_x (P := P) t ty el z bytes ht hinfo hz (by decide) HO ad news.length cc news (by simp) hnews h1 h63 hb
    exact ⟨v', w', hr, h2, h3⟩

theorem step_append_rd {K : Act → World → Prop} {E : Prop} (hgd : o.guard = none) (s x : Operand) (t el : TypeId) (z : Value) (bytes : Nat)
    (ho : o.op = .call { callee := .builtin .append, args := #[s, x], argTypes := #[t, t] })
    (ht : P.underlying t = some (.slice el)) (hinfo : (P.info? el).map (fun i => (i.zero, i.size, i.bytes)) = some (some z, 1, bytes)) (hz : z.cells.size = 1)
    (HO : Own w S el 1 v N xs) (hs : act.eval s = v) (HR : Rd w T xv news) (hx : act.eval x = xv) (h1 : ∀ u ∈ news, u.oneCell' = true)
    (h63 : N + news.length ≤ maxLen) (hb : (N + news.length) * bytes ≤ 140737488355328)
    (h : ∀ v' w', Own w' (Gr S w) el 1 v' (N + news.length) (xs ++ news) → Fr (Row v) w w' → K (act.put o.dst v') w') :
    if Region.wanted o (yielded ops act.tmps) = true then Oper.wp P o act w K Q else E := by
  have hw : Region.wanted o (yielded ops act.tmps) = true := by simp [Region.wanted, hgd]
  rw [if_pos hw]
  obtain ⟨v', w', hr, h2, h3⟩ := run_append_rd (P := P) t o.type el z bytes ht hinfo hz HO HR h1 h63 hb
  unfold Oper.wp execOp
  simp only [ho, resolve, invoke, builtin, Sem.run_bind, Sem.run_pure, Result.andThen_ok, List.map_toArray, List.map_cons, List.map_nil, hs, hx, hr]
  exact h v' w' h2 h3

theorem wp_append_rd (hgd : o.guard = none) (s x : Operand) (t el : TypeId) (z : Value) (bytes : Nat)
    (ho : o.op = .call { callee := .builtin .append, args := #[s, x], argTypes := #[t, t] })
    (ht : P.underlying t = some (.slice el)) (hinfo : (P.info? el).map (fun i => (i.zero, i.size, i.bytes)) = some (some z, 1, bytes)) (hz : z.cells.size = 1)
    (HO : Own w S el 1 v N xs) (hs : act.eval s = v) (HR : Rd w T xv news) (hx : act.eval x = xv) (h1 : ∀ u ∈ news, u.oneCell' = true)
    (h63 : N + news.length ≤ maxLen) (hb : (N + news.length) * bytes ≤ 140737488355328)
    (h : ∀ v' w', Own w' (Gr S w) el 1 v' (N + news.length) (xs ++ news) → Fr (Row v) w w' → wpList P ops Q rest (act.put o.dst v') w') :
    wpList P ops Q (o :: rest) act w := by
  refine wpList_plain hgd fun K hK => ?_
  obtain ⟨v', w', hr, h2, h3⟩ := run_append_rd (P := P) t o.type el z bytes ht hinfo hz HO HR h1 h63 hb
  unfold Oper.wp execOp
  simp only [ho, resolve, invoke, builtin, Sem.run_bind, Sem.run_pure, Result.andThen_ok, List.map_toArray, List.map_cons, List.map_nil, hs, hx, hr]
  exact hK _ _ (h v' w' h2 h3)
end

/-- The document's machine's cells. -/
def r8cells (n s h t b : Int) (gv : Bool) (i : Int) (sh vt : Value) (failed : Int) (ended : Bool) (st node : Int) : Array Value :=
  #[.int .i64 n, .int .i64 s, .int .i64 h, .int .u32 t, .int .i64 b, .bool gv, .int .u32 i, sh, vt, .int .i64 failed, .bool ended, .int .i64 st, .int .u32 node]

/-- A pair's pointers. -/
def APairOf (gv : Bool) (g : Nat) (vt vg : Value) : Prop := (gv = true ∧ vt = .pointer none ∧ vg = .pointer (some ⟨g, 0, none⟩)) ∨ (gv = false ∧ vg = .pointer none ∧ vt = .pointer (some ⟨g, 0, none⟩))

/-- The machine of a job. -/
def jobA (gv : Bool) (b i : Int) (xs : List Int) : Arn := ⟨gv, bud b, xs, none, 0, 0, cond gv (i % 4294967296) 0⟩

def Made8Post (L : Nat → Nat) (w : World) (kX kI kR : Nat) (n s h t b : Int) (xs : List Int) (A : Arn) (e : Ending) (w' : World) : Prop :=
  ∃ g r vt vg, e = .returned (.agg #[vt, vg, .pointer (some ⟨r, 0, none⟩)]) ∧ APairOf A.give g vt vg ∧ ∃ L', Ext L L' w ∧ ArnAt w' L' kX kI g n s h t A ∧
    (∃ vs, Blk w' r (r8cells n s h t b A.give A.node vs (.pointer none) 0 false 0 0) 98 ∧ Own w' (Lab L' w' kR) 23 1 vs xs.length (us .u32 xs)) ∧ L' r = kR ∧ Fr No w w'

/-- Behind the document's machine's making. -/
def Mid8 (w wx : World) (n s h t b i : Int) (gv : Bool) (v v5 : Value) (xs : List Int) : Prop :=
  ∃ r vs, v5 = .pointer (some ⟨r, 0, none⟩) ∧ w.heap.size + 1 + 1 < r ∧ Blk wx r (r8cells n s h t b gv 0 vs (.pointer none) 0 false 0 0) 98 ∧ Own wx (New (w.heap.size + 1 + 1 + 1)) 23 1 vs xs.length (us .u32 xs) ∧
    Blk wx w.heap.size #[.int .i64 n, .int .i64 s, .int .i64 h, .int .u32 t] 25 ∧ Blk wx (w.heap.size + 1) #[.bool gv, .int .i64 b, .int .i64 i, v] 93 ∧ Blk wx (w.heap.size + 1 + 1) #[.pointer none, .pointer none, .pointer none] 90 ∧ Fr No w wx

theorem made8_end {w1 wz w2 : World} {A : Arn} {r gV : Nat} {cs : Array Value} {vs : Value} {xs : List Int} (hXR : kR ≠ kX) (hIR : kR ≠ kI) (hf : Fr No w wz) (hf1 : Fr No wz w1) (hst : Fr (fun i => i = gV) w1 w2) (hA : ArnAt w1 (re (re L w kR) wz kX) kX kI g n s h t A) (hR : Blk wz r cs 98) (hO : Own wz (New (gV + 1)) 23 1 vs xs.length (us .u32 xs))
    (hgV : w.heap.size + 1 + 1 = gV) (hr : gV < r) (hV : gV < wz.heap.size) :
    ∃ L', Ext L L' w ∧ ArnAt w2 L' kX kI g n s h t A ∧ (Blk w2 r cs 98 ∧ Own w2 (Lab L' w2 kR) 23 1 vs xs.length (us .u32 xs)) ∧ L' r = kR ∧ Fr No w w2 := by
  have hlab : ∀ i, w.heap.size ≤ i → i < wz.heap.size → re (re L w kR) wz kX i = kR := fun i h1 h2 => by rw [re, if_pos h2, re, if_neg (by omega)]
  have hO1 : Own wz (fun i => gV + 1 ≤ i ∧ i < wz.heap.size) 23 1 vs xs.length (us .u32 xs) := hO.wide fun i hi hl => ⟨hi, hl⟩
  have hO2 := (hO1.keepNo hf1).keep hst (fun i hi h => by omega)
  have hz1 := hf1.size
  have hz2 := hst.size
  refine ⟨re (re L w kR) wz kX, (ext_re L w kR).trans (ext_re _ wz kX) hf.size, hA.lab (q := fun k => k = kR) (Fr.mono hst fun i _ e => by rw [e]; exact hlab gV (by omega) hV) (Ext.refl _ _) (Ne.symm hXR) (Ne.symm hIR), ⟨hst.keep (hf1.keepNo hR) (by omega), hO2.wide fun i hi _ => ⟨hlab i (by omega) hi.2, by omega⟩⟩, hlab r (by omega) hR.lt, (hf.then hf1).trans hst fun i hi h => by omega⟩

set_option maxHeartbeats 4000000 in
theorem made8_ (w : World) (L : Nat → Nat) (kX kI kR : Nat) (n s h t b i : Int) (gv : Bool) (v : Value) (xs : List Int) (hXR : kR ≠ kX) (hIR : kR ≠ kI) (hv : Rd w S v (us .u32 xs)) (hl : xs.length ≤ 1000000) (b1 : b ≤ 9223372036854775807) (b0 : -9223372036854775808 ≤ b) (hx : ∀ j, 0 ≤ xs.getD j 0 ∧ xs.getD j 0 < 4294967296) :
    Calls Try.prog 52 #[cfg n s h t, .agg #[.bool gv, .int .i64 b, .int .i64 i, v]] w (Made8Post L w kX kI kR n s h t b xs (jobA gv b i xs)) := by
  have HV := Lib.hid hv
  have HX := Lib.hid hx
  obtain ⟨A0, c0, rfl, _, _⟩ := hv.slice
  clear hv hx
  go_enter Try.func52, Try.ntmps52
  go_wp2_with fail
  generalize hwA : World.alloc (World.alloc (World.alloc w _) _) _ = wA
  have hfA : Fr No w wA := by rw [← hwA]; (repeat (first | exact Fr.refl _ _ | refine Fr.setCell ?_ (.inl (by first | (simp; done) | (simp; omega) | omega)) _ | refine Fr.alloc ?_ _ | refine Fr.drew ?_ | refine Fr.drewN ?_ _ | refine Fr.thenNo ?_ (by assumption)))
  have hC : Blk wA w.heap.size #[.int .i64 n, .int .i64 s, .int .i64 h, .int .u32 t] 25 := by rw [← hwA]; exact ((blk_new _ _ _).alloc _).alloc _
  have hJ : Blk wA (w.heap.size + 1) #[.bool gv, .int .i64 b, .int .i64 i, .slice A0 xs.length c0] 93 := by rw [← hwA]; exact (blk_at _ (by simp)).alloc _
  have hV : Blk wA (w.heap.size + 1 + 1) #[.pointer none, .pointer none, .pointer none] 90 := by rw [← hwA]; exact blk_at _ (by simp)
  have hsA : wA.heap.size = w.heap.size + 1 + 1 + 1 := by rw [← hwA]; simp
  clear hwA
  have HSA := Lib.hid hsA
  clear hsA
  have p0 := hC.cells 0
  have p1 := hC.cells 1
  have p2 := hC.cells 2
  have p3 := hC.cells 3
  have q0 := hJ.cells 0
  have q1 := hJ.cells 1
  have q3 := hJ.cells 3
  simp at p0 p1 p2 p3 q0 q1 q3
  have lC := hC.lt
  have lJ := hJ.lt
  have hRA := HV.out.keepNo hfA
  go_cut [5] (fun v5 wx => Mid8 w wx n s h t b i gv (.slice A0 xs.length c0) v5 xs)
  case first =>
    go_region_held3 (fun w' => w'.cell? ⟨w.heap.size, 0, none⟩ = some (.int .i64 n) ∧ w'.cell? ⟨w.heap.size, 1, none⟩ = some (.int .i64 s) ∧ w'.cell? ⟨w.heap.size, 2, none⟩ = some (.int .i64 h) ∧ w'.cell? ⟨w.heap.size, 3, none⟩ = some (.int .u32 t) ∧ w'.cell? ⟨w.heap.size + 1, 0, none⟩ = some (.bool gv) ∧ w'.cell? ⟨w.heap.size + 1, 1, none⟩ = some (.int .i64 b) ∧ w'.cell? ⟨w.heap.size + 1, 3, none⟩ = some (.slice A0 xs.length c0)) (first | (go_keep; done) | (go_split_ands; (repeat' apply And.intro) <;> first | assumption | (refine (Fr.cell (S := No) (by assumption) (by first | (simp; done) | (simp; omega) | omega) id).trans ?_; first | assumption | (simp; done) | (simp; assumption)) | (refine (Fr.frozen (S := No) (by assumption) (by first | (simp; done) | (simp; omega) | omega) id).trans ?_; first | assumption | (simp; done) | (simp; assumption))))
      ((refine step_append_rd (N := 0) (S := New wA.heap.size) rfl _ _ 41 23 (.int .u32 0) 4 rfl Try.underlying41 info23 rfl (Own.lit _ (n := 0) (by show _ ≤ _; simp) (blk_at _ (by simp)) rfl (by decide)) rfl ((hRA.keepNo ((Fr.refl No wA).drew)).keepNo ((Fr.refl No _).alloc _)) rfl (us_one _ _) (by rw [us_len]; simp only [maxLen]; omega) (by rw [us_len]; omega) ?_; intro v' w6 hO6 hf6; rw [us_len, Nat.zero_add] at hO6; obtain ⟨A6, c6, rfl, _, _⟩ := hO6.slice; have hf7 : Fr No wA w6 := (((Fr.refl No wA).drew).alloc _).trans hf6 (fun i hi h => by simp [Row, Value.ownBlock] at h; omega); have hC6 := hf7.keepNo hC; have hJ6 := hf7.keepNo hJ; have hV6 := hf7.keepNo hV; have s0 := hC6.cells 0; have s1 := hC6.cells 1; have s2 := hC6.cells 2; have s3 := hC6.cells 3; have u0 := hJ6.cells 0; have u1 := hJ6.cells 1; have u3 := hJ6.cells 3; simp at s0 s1 s2 s3 u0 u1 u3))
    all_goals
      go_wp2_with fail
      go_meet
      refine ⟨w6.heap.size, _, rfl, by have := hf7.size; have := HSA.out; omega, blk_new _ _ _, ?_, hC6.alloc _, hJ6.alloc _, hV6.alloc _, (hfA.then hf7).alloc _⟩
      simpa using (hO6.alloc _).wide (S' := New (w.heap.size + 1 + 1 + 1)) (fun i hi _ => by rcases hi with hi | hi <;> simp only [New, World.size_alloc, World.size_drew] at * <;> have := HSA.out <;> omega)
  case rest =>
    obtain ⟨r, vs, rfl, hr, hR, hO, hC, hJ, hV, hf⟩ := hcut
    clear p0 p1 p2 p3 q0 q1 q3 lC lJ hRA hfA
    have q0 := hJ.cells 0
    have q1 := hJ.cells 1
    have q2 := hJ.cells 2
    have q3 := hJ.cells 3
    simp at q0 q1 q2 q3
    obtain ⟨gC, hgC⟩ : ∃ gC, gC = w.heap.size := ⟨_, rfl⟩
    obtain ⟨gJ, hgJ⟩ : ∃ gJ, gJ = w.heap.size + 1 := ⟨_, rfl⟩
    obtain ⟨gV, hgV⟩ : ∃ gV, gV = w.heap.size + 1 + 1 := ⟨_, rfl⟩
    have HG := Lib.hid (And.intro hgC (And.intro hgJ hgV))
    rw [← hgV] at hr hO hV ⊢
    rw [← hgJ] at hJ q0 q1 q2 q3 ⊢
    rw [← hgC] at hC ⊢
    have n1 : r ≠ gC := by omega
    have n2 : r ≠ gJ := by omega
    have n3 : r ≠ gV := by omega
    have hwr : w.heap.size ≤ r := by omega
    have HWR := Lib.hid hwr
    clear hgC hgJ hgV hwr
    have CC := hC.cells
    have FR := hR.free
    have CR := hR.cells
    have lC := hC.lt
    have lR := hR.lt
    have lJ := hJ.lt
    cases gv with
    | true =>
      have hg0 : 0 ≤ i % 4294967296 ∧ i % 4294967296 < 4294967296 := by omega
      go_wp2_with fail
      have hR2 : Blk _ r (r8cells n s h t b true (i % 4294967296) vs (.pointer none) 0 false 0 0) 98 := hR.set 6 (.int .u32 (i % 4294967296))
      have hfz : Fr No w (wc.setCell ⟨r, 6, none⟩ (.int .u32 (i % 4294967296))) := Fr.setCell hf (.inl HWR.out) _
      have hfr : Fr (fun j => j = r) wc (wc.setCell ⟨r, 6, none⟩ (.int .u32 (i % 4294967296))) := Fr.setCell (Fr.refl (fun j => j = r) wc) (.inr (by rfl)) _
      have hV2 := hfr.keep hV (Ne.symm n3)
      have hO2 : Own (wc.setCell ⟨r, 6, none⟩ (.int .u32 (i % 4294967296))) (New (gV + 1)) 23 1 vs xs.length (us .u32 xs) := hO.far' (p := ⟨r, 6, none⟩) (hO.ne hR (by decide)) _
      generalize wc.setCell ⟨r, 6, none⟩ (.int .u32 (i % 4294967296)) = wz at hR2 hfz hfr hV2 hO2 ⊢
      clear CR FR lR lC lJ CC q0 q1 q2 q3 hR hO hV hC hJ
      refine (ANewGive_ (S := S) wz (re L w kR) kX kI n s h t b (i % 4294967296) _ xs (HV.out.keepNo hfz) hl b1 b0 HX.out hg0.1 hg0.2).mono ?_
      rintro e w1 ⟨g, rfl, hA, hgs, hf1⟩
      have hV3 := hf1.keepNo hV2
      have FV := hV3.free
      have CV := hV3.cells
      have lV := hV3.lt
      go_wp2_with fail
      have hst : Fr (fun i => i = gV) w1 (((w1.setCell ⟨gV, 0, none⟩ (.pointer none)).setCell ⟨gV, 1, none⟩ (.pointer (some ⟨g, 0, none⟩))).setCell ⟨gV, 2, none⟩ (.pointer (some ⟨r, 0, none⟩))) := Fr.setCell (Fr.setCell (Fr.setCell (Fr.refl (fun i => i = gV) w1) (.inr (by rfl)) _) (.inr (by rfl)) _) (.inr (by rfl)) _
      have hV4 := ((hV3.set 0 (.pointer none)).set 1 (.pointer (some ⟨g, 0, none⟩))).set 2 (.pointer (some ⟨r, 0, none⟩))
      generalize ((w1.setCell ⟨gV, 0, none⟩ (.pointer none)).setCell ⟨gV, 1, none⟩ (.pointer (some ⟨g, 0, none⟩))).setCell ⟨gV, 2, none⟩ (.pointer (some ⟨r, 0, none⟩)) = w2 at hst hV4 ⊢
      have CZ := hV4.cells
      have c0 := CZ 0
      have c1 := CZ 1
      have c2 := CZ 2
      simp at c0 c1 c2
      have K := made8_end (L := L) hXR hIR hfz hf1 hst hA hR2 hO2 (by have := HG.out.2.2; omega) hr hV2.lt
      clear CV FV CZ hV4
      refine bodyPost_ret (v := .agg #[.pointer none, .pointer (some ⟨g, 0, none⟩), .pointer (some ⟨r, 0, none⟩)]) (by simp [results, Try.results52, go_sem, c0, c1, c2]) rfl ?_
      show Made8Post L w kX kI kR n s h t b xs (jobA true b i xs) _ w2
      rw [show jobA true b i xs = ⟨true, bud b, xs, none, 0, 0, i % 4294967296⟩ from rfl]
      obtain ⟨L', k1, k2, ⟨k3, k4⟩, k5, k6⟩ := K
      exact ⟨g, r, _, _, rfl, .inl ⟨rfl, rfl, rfl⟩, L', k1, k2, ⟨vs, k3, k4⟩, k5, k6⟩
    | false =>
      go_wp2_with fail
      refine (ANewTake_ (S := S) wc (re L w kR) kX kI n s h t b _ xs (HV.out.keepNo hf) hl b1 b0 HX.out).mono ?_
      rintro e w1 ⟨g, rfl, hA, hgs, hf1⟩
      have lV2 := hV.lt
      have hV3 := hf1.keepNo hV
      have FV := hV3.free
      have CV := hV3.cells
      have lV := hV3.lt
      clear CR FR lR lC lJ CC q0 q1 q2 q3 hC hJ
      go_wp2_with fail
      have hst : Fr (fun i => i = gV) w1 (((w1.setCell ⟨gV, 0, none⟩ (.pointer (some ⟨g, 0, none⟩))).setCell ⟨gV, 1, none⟩ (.pointer none)).setCell ⟨gV, 2, none⟩ (.pointer (some ⟨r, 0, none⟩))) := Fr.setCell (Fr.setCell (Fr.setCell (Fr.refl (fun i => i = gV) w1) (.inr (by rfl)) _) (.inr (by rfl)) _) (.inr (by rfl)) _
      have hV4 := ((hV3.set 0 (.pointer (some ⟨g, 0, none⟩))).set 1 (.pointer none)).set 2 (.pointer (some ⟨r, 0, none⟩))
      generalize ((w1.setCell ⟨gV, 0, none⟩ (.pointer (some ⟨g, 0, none⟩))).setCell ⟨gV, 1, none⟩ (.pointer none)).setCell ⟨gV, 2, none⟩ (.pointer (some ⟨r, 0, none⟩)) = w2 at hst hV4 ⊢
      have CZ := hV4.cells
      have c0 := CZ 0
      have c1 := CZ 1
      have c2 := CZ 2
      simp at c0 c1 c2
      have K := made8_end (L := L) hXR hIR hf hf1 hst hA hR hO (by have := HG.out.2.2; omega) hr lV2
      clear CV FV CZ hV4
      refine bodyPost_ret (v := .agg #[.pointer (some ⟨g, 0, none⟩), .pointer none, .pointer (some ⟨r, 0, none⟩)]) (by simp [results, Try.results52, go_sem, c0, c1, c2]) rfl ?_
      show Made8Post L w kX kI kR n s h t b xs (jobA false b i xs) _ w2
      rw [show jobA false b i xs = ⟨false, bud b, xs, none, 0, 0, 0⟩ from rfl]
      obtain ⟨L', k1, k2, ⟨k3, k4⟩, k5, k6⟩ := K
      exact ⟨g, r, _, _, rfl, .inr ⟨rfl, rfl, rfl⟩, L', k1, k2, ⟨vs, k3, k4⟩, k5, k6⟩
end Go.Proofs.Ytfglpigoljclbaa.H
