/- layout.Chain and layout.Stack, for a right config and as many words as it has places: the list that the words make. -/
import Derived.Test.YtfglpigoljclbaaHFresh
set_option linter.unusedVariables false
namespace Go.Proofs.Ytfglpigoljclbaa.H
open Go.RowKit
attribute [local go_sem ↓] Go.wp_at_zero Go.wp_at_succ

/-- The list of nodes from i on, behind acc. -/
def chainGo (n : Int) (ws : List Int) : Nat → Int → List Int → Option (List Int)
  | 0, _, _ => none
  | f + 1, i, acc => if i = 0 then some acc else if n < i ∨ n ≤ acc.length then none else chainGo n ws f (ws.getD (2 * i).toNat 0 % 4294967296) (acc ++ [i])

def chainL (n : Int) (ws : List Int) (x : Int) : Option (List Int) := chainGo n ws (n.toNat + 1) (x % 4294967296) []

/-- All numbers are words. -/
def Words (ws : List Int) : Prop := ∀ j, 0 ≤ ws.getD j 0 ∧ ws.getD j 0 < 18446744073709551616

/-- What Chain tells. -/
def ChainPost (w : World) (R : Option (List Int)) (e : Ending) (w' : World) : Prop :=
  (match R with
    | some l => ∃ v, e = .returned (.tuple #[v, .bool true]) ∧ Own w' (New w.heap.size) 23 1 v l.length (us .u32 l)
    | none => e = .returned (.tuple #[.slice none 0 0, .bool false])) ∧ Fr No w w'

def ChainInv (w wr : World) (n s h t : Int) (ws : List Int) (R : Option (List Int)) (out i : Value) (acc : List Int) : Prop :=
  Own wr (New w.heap.size) 23 1 out acc.length (us .u32 acc) ∧ Fr No w wr ∧ Blk wr w.heap.size #[.int .i64 n, .int .i64 s, .int .i64 h, .int .u32 t] 25 ∧
  ∃ x : Int, 0 ≤ x ∧ x < 4294967296 ∧ i = .int .u32 x ∧ (acc.length : Int) ≤ n ∧ chainGo n ws (n.toNat + 1 - acc.length) x acc = R

def lenOf : Value → Nat | .slice _ n _ => n | _ => 0

set_option maxRecDepth 100000 in
set_option maxHeartbeats 1000000 in
theorem Chain_ (w : World) (S : Nat → Prop) (n s h t x : Int) (ok : cfgOk n s h) (v : Value) (ws : List Int) (hv : Rd w S v (us .u64 ws)) (hws : Words ws) (hlen : (ws.length : Int) = 2 + 2 * n + s + h) (x0 : 0 ≤ x) (x1 : x < 18446744073709551616)
    (R : Option (List Int)) (hR : chainL n ws x = R) :
    Calls Try.prog 31 #[cfg n s h t, v, .int .u64 x] w (ChainPost w R) := by
  have ok' := ok
  obtain ⟨h1, h2, h3, h4, h5, h6⟩ := ok'
  obtain ⟨A, c, rfl, hlc, hcm, hcell⟩ := hv
  rw [us_len] at hlc hcell ⊢
  obtain ⟨b, o, rfl, hS, hcell⟩ := hcell (by omega)
  have hbl0 : b < w.heap.size := by
    have := hcell 0 (by omega)
    rw [us_get _ _ _ (by omega)] at this
    exact World.block_lt_of_cell? w _ this
  have HCELL := Lib.hid hcell
  clear hcell
  have hcl : ((ws.length : Int) != 2 + 2 * n + s + h) = false := by rw [hlen]; simp
  obtain ⟨L, hL⟩ : ∃ L, L = ws.length := ⟨_, rfl⟩
  rw [← hL] at hcl hlc ⊢
  have HLEN := Lib.hid hlen
  have HL := Lib.hid hL
  clear hlen hL
  go_enter Try.func31, Try.ntmps31
  go_wp2_with fail
  refine (Check_yes _ _ _ _ _ ok).mono ?_
  rintro e w1 ⟨rfl, hf1⟩
  have B1 := hf1.keepNo (blk_at w rfl)
  have C1 := B1.cells
  have Z1 := B1.lt
  go_wp2_with fail
  refine (Cells_yes _ _ _ _ _ ok).mono ?_
  rintro e w2 ⟨rfl, hf2⟩
  have B2 := hf2.keepNo B1
  have Z2 := B2.lt
  have hfw2 := ((Fr.refl No w).alloc _ |>.then hf1).then hf2
  clear C1 B1 Z1
  go_wp2_with fail
  refine (Index_ _ _ x0 x1).mono ?_
  rintro e w3 ⟨rfl, hf3⟩
  have B3 := hf3.keepNo B2
  have hfw3 := hfw2.then hf3
  clear hf1 hf2 hf3 B2 Z2 hfw2
  go_wp2_with fail
  go_loopw [8, 9] (fun out i wr => ∃ acc, ChainInv w wr n s h t ws R out i acc) (fun out _ _ => 64 - lenOf out)
  case atStart => exact ⟨[], Own.nil _ _ _ _, hfw3, B3, x % 4294967296, by omega, by omega, rfl, by simp; omega, hR⟩
  case round =>
    clear hfw3 B3
    obtain ⟨acc, hO, hfw, hB, y, hy0, hy1, rfl, hal, hgo⟩ := hrel
    have C := hB.cells
    obtain ⟨A, ca, rfl, hca, hcam⟩ := hO.slice
    by_cases hyz : y = 0
    · subst hyz
      have e : n.toNat + 1 - acc.length = (n.toNat - acc.length) + 1 := by omega
      rw [e, chainGo, if_pos rfl] at hgo
      subst hgo
      go_wp2_with fail
      go_ret2
      exact ⟨⟨_, rfl, hO⟩, hfw⟩
    · have hyb : (y != 0) = true := by simpa using hyz
      have hbl : w.heap.size < wr.heap.size := hB.lt
      by_cases hbad : n < y ∨ n ≤ acc.length
      · have e : n.toNat + 1 - acc.length = (n.toNat - acc.length) + 1 := by omega
        rw [e, chainGo, if_neg hyz, if_pos hbad] at hgo
        subst hgo
        by_cases hny : n < y
        · go_wp2_with fail
          refine (Next_out _ _ _ _ _ _ hy0 hy1 (by right; right; exact hny)).mono ?_
          rintro e w5 ⟨rfl, hf5⟩
          go_wp2_with fail
          go_ret2
          exact ⟨rfl, hfw.thenNo hf5⟩
        · have hal2 : n ≤ (acc.length : Int) := by omega
          go_wp2_with fail
          refine (Next_in _ _ _ _ _ _ ok (by omega) (by omega)).mono ?_
          rintro e w5 ⟨rfl, hf5⟩
          have hB5 := hf5.keepNo hB
          have C5 := hB5.cells
          clear C
          go_wp2_with fail
          go_ret2
          exact ⟨rfl, hfw.thenNo hf5⟩
      · have hny : y ≤ n := by omega
        have hal2 : (acc.length : Int) < n := by omega
        have hy2 : 0 < y := by omega
        go_wp2_with fail
        refine (Next_in _ _ _ _ _ _ ok (by omega) (by omega)).mono ?_
        rintro e w5 ⟨rfl, hf5⟩
        have hB5 := hf5.keepNo hB
        have C5 := hB5.cells
        have hO5 := hO.keepNo hf5
        have hfw5 := hfw.thenNo hf5
        clear C hB hO hfw hf5
        go_wp2_with (at_builtin; go_loud (refine wp_append_1 rfl _ _ 41 23 (.int .u32 0) 4 rfl Try.underlying41 info23 rfl (by decide) (by decide) hO5 rfl #[.int .u32 y] _ rfl rfl rfl (by intro u hu; simp at hu; subst hu; rfl) (by omega) ?_; intro g' cap' w6 hO6 hf6 hr6; have hB6 := hf6.keep hB5 (hO5.ne hB5 (by decide)); have C6 := hB6.cells))
        have hO7 : Own w6 (New w.heap.size) 23 1 (.slice (some ⟨g', 0, none⟩) (acc.length + 1) cap') (acc ++ [y]).length (us .u32 (acc ++ [y])) := by
          rw [us_append, List.length_append]
          exact hO6.wide (fun i hi _ => by rcases hi with hi | hi; exact hi; have := hB5.lt; simp only [New]; omega)
        have hfw7 : Fr No w w6 := hfw5.trans hf6 (fun i hi h => by have := hO5.2 i h; simp only [New] at this; omega)
        clear hO6 hf6 hr6 hO5 hfw5 hB5 C5
        refine (Next_in _ _ _ _ _ _ ok (by omega) (by omega)).mono ?_
        rintro e w8 ⟨rfl, hf8⟩
        have hb1 : (2 * y) < (L : Int) := by have := HLEN.out; have := HL.out; omega
        have hb2 : (0 : Int) ≤ 2 * y := by omega
        have hcl2 : (2 * y).toNat < ws.length := by have := HLEN.out; omega
        have hcy := HCELL.out (2 * y).toNat hcl2
        rw [us_get _ _ _ hcl2, ← (hfw7.thenNo hf8).cell (p := ⟨b, o + (2 * y).toNat, none⟩) hbl0 id] at hcy
        obtain ⟨q, hq⟩ : ∃ q, q = ws.getD (2 * y).toNat 0 := ⟨_, rfl⟩
        rw [← hq] at hcy
        have hq0 : 0 ≤ q := by rw [hq]; exact (hws _).1
        have hq1 : q < 18446744073709551616 := by rw [hq]; exact (hws _).2
        have HQ := Lib.hid hq
        clear hq
        go_wp2_with fail
        refine (Index_ _ _ hq0 hq1).mono ?_
        rintro e w9 ⟨rfl, hf9⟩
        go_wp2_with fail
        go_roundw
        case rel =>
          refine ⟨acc ++ [y], (hO7.keepNo hf8).keepNo hf9, (hfw7.thenNo hf8).thenNo hf9, hf9.keepNo (hf8.keepNo hB6), q % 4294967296, by omega, by omega, rfl, by simp; omega, ?_⟩
          have e : n.toNat + 1 - acc.length = (n.toNat - acc.length) + 1 := by omega
          rw [e, chainGo, if_neg hyz, if_neg hbad, ← HQ.out] at hgo
          rw [← hgo]
          congr 1
          simp
        case measure => simp [lenOf]; omega

theorem Chain' (w : World) (S : Nat → Prop) (n s h t x : Int) (ok : cfgOk n s h) (v : Value) (ws : List Int) (hv : Rd w S v (us .u64 ws)) (hws : Words ws) (hlen : (ws.length : Int) = 2 + 2 * n + s + h) (x0 : 0 ≤ x) (x1 : x < 18446744073709551616)
    (l : List Int) (b : Bool) (hR : chainL n ws x = if b then some l else none) (hl : b = false → l = []) :
    Calls Try.prog 31 #[cfg n s h t, v, .int .u64 x] w fun e w' => (∃ v, e = .returned (.tuple #[v, .bool b]) ∧ Own w' (New w.heap.size) 23 1 v l.length (us .u32 l)) ∧ Fr No w w' := by
  refine (Chain_ w S n s h t x ok v ws hv hws hlen x0 x1 _ hR).mono fun e w' hp => ?_
  obtain ⟨hp, hf⟩ := hp
  cases b with
  | true => exact ⟨hp, hf⟩
  | false =>
    obtain rfl := hl rfl
    exact ⟨⟨_, hp, Own.nil _ _ _ _⟩, hf⟩

/-- The values of the stack's nodes, the last one's first. -/
def stackL (ws l : List Int) : List Int := tab l.length fun j => ws.getD (2 * l.getD (l.length - 1 - j) 0 + 1).toNat 0

/-- Where Chain tells a list, its nodes are nodes. -/
theorem chainGo_in (n : Int) (ws : List Int) : ∀ (f : Nat) (i : Int) (acc l : List Int), 0 ≤ i → Words ws → (∀ x ∈ acc, 1 ≤ x ∧ x ≤ n) → (acc.length : Int) ≤ n → chainGo n ws f i acc = some l → (∀ x ∈ l, 1 ≤ x ∧ x ≤ n) ∧ (l.length : Int) ≤ n := by
  intro f
  induction f with
  | zero => intro i acc l _ _ _ _ h; cases h
  | succ f ih =>
    intro i acc l hi hw ha hl h
    simp only [chainGo] at h
    by_cases h0 : i = 0
    · rw [if_pos h0] at h
      cases h
      exact ⟨ha, hl⟩
    · rw [if_neg h0] at h
      by_cases h1 : n < i ∨ n ≤ acc.length
      · rw [if_pos h1] at h; cases h
      · rw [if_neg h1] at h
        refine ih _ _ _ (by omega) hw ?_ (by simp; omega) h
        intro x hx
        simp only [List.mem_append, List.mem_singleton] at hx
        rcases hx with hx | rfl
        · exact ha x hx
        · omega

theorem chainL_in {n x : Int} {ws l : List Int} (hw : Words ws) (hn : 0 ≤ n) (hx : 0 ≤ x) (h : chainL n ws x = some l) : (∀ x ∈ l, 1 ≤ x ∧ x ≤ n) ∧ (l.length : Int) ≤ n :=
  chainGo_in n ws _ _ _ l (by omega) hw (by simp) (by simpa using hn) h


/-- The values, as far as the first k nodes go. -/
def stackK (ws l : List Int) (k : Nat) : List Int := tab l.length fun j => if l.length - 1 - j < k then ws.getD (2 * l.getD (l.length - 1 - j) 0 + 1).toNat 0 else 0

def StackInv (w wr : World) (g : Nat) (n s h t : Int) (ws l : List Int) (k : Nat) (v6 : Value) : Prop :=
  Own wr (New w.heap.size) 23 1 v6 l.length (us .u32 l) ∧ Own wr (New g) 26 1 (.slice (some ⟨g, 0, none⟩) l.length l.length) l.length (us .u64 (stackK ws l k)) ∧ Fr No w wr ∧ Blk wr w.heap.size #[.int .i64 n, .int .i64 s, .int .i64 h, .int .u32 t] 25

def StackPost (w : World) (ws l : List Int) (ok : Bool) (e : Ending) (w' : World) : Prop :=
  (∃ v, e = .returned (.tuple #[v, .bool ok]) ∧ Own w' (New w.heap.size) 26 1 v l.length (us .u64 (stackL ws l))) ∧ Fr No w w'

/-- Behind Chain, in Stack. -/
def StackMid (w wr : World) (n s h t : Int) (ws l : List Int) (ok : Bool) (v6 v7 : Value) : Prop :=
  v7 = .bool ok ∧ Own wr (New w.heap.size) 23 1 v6 l.length (us .u32 l) ∧ Fr No w wr ∧ Blk wr w.heap.size #[.int .i64 n, .int .i64 s, .int .i64 h, .int .u32 t] 25

set_option maxRecDepth 100000 in
set_option maxHeartbeats 1000000 in
theorem Stack_ (w : World) (S : Nat → Prop) (n s h t : Int) (ok : cfgOk n s h) (v : Value) (ws : List Int) (hv : Rd w S v (us .u64 ws)) (hws : Words ws) (hlen : (ws.length : Int) = 2 + 2 * n + s + h)
    (l : List Int) (b : Bool) (hR : chainL n ws (ws.getD 0 0) = if b then some l else none) (hl : b = false → l = []) :
    Calls Try.prog 32 #[cfg n s h t, v] w (StackPost w ws l b) := by
  have hv0 := hv
  have ok' := ok
  obtain ⟨h1, h2, h3, h4, h5, h6⟩ := ok'
  obtain ⟨A, c, rfl, hlc, hcm, hcell⟩ := hv
  rw [us_len] at hlc hcell hv0 ⊢
  obtain ⟨bb, o, rfl, hS, hcell⟩ := hcell (by omega)
  have hbl0 : bb < w.heap.size := by
    have := hcell 0 (by omega)
    rw [us_get _ _ _ (by omega)] at this
    exact World.block_lt_of_cell? w _ this
  have HCELL := Lib.hid hcell
  have hc0 := hcell 0 (by omega)
  rw [us_get _ _ _ (by omega), Nat.add_zero] at hc0
  clear hcell
  obtain ⟨q, hq⟩ : ∃ q, q = ws.getD 0 0 := ⟨_, rfl⟩
  have hq0 : 0 ≤ q := by rw [hq]; exact (hws _).1
  have hq1 : q < 18446744073709551616 := by rw [hq]; exact (hws _).2
  rw [← hq] at hc0 hR
  clear hq
  have hin : (∀ x ∈ l, 1 ≤ x ∧ x ≤ n) ∧ (l.length : Int) ≤ n := by
    cases b with
    | true => exact chainL_in hws (by omega) hq0 hR
    | false => rw [hl rfl]; simp; omega
  obtain ⟨L, hL⟩ : ∃ L, L = ws.length := ⟨_, rfl⟩
  have hL0 : 0 < L := by omega
  have hL1 : (0 : Int) < L := by omega
  have hLz : ((L : Int) == 0) = false := by simp; omega
  rw [← hL] at hlc hv0 ⊢
  have HLEN := Lib.hid hlen
  have HL := Lib.hid hL
  have HV := Lib.hid hv0
  have HR := Lib.hid hR
  clear hlen hL hv0 hR
  go_enter Try.func32, Try.ntmps32
  have hbw := Nat.ne_of_lt hbl0
  go_wp2_with fail
  go_cut [6, 7] (fun v6 v7 wr => StackMid w wr n s h t ws l b v6 v7)
  case first =>
    go_region_held3 (fun w' => w'.cell? ⟨bb, o, none⟩ = some (.int .u64 q) ∧ w'.cell? ⟨w.heap.size, 0, none⟩ = some (.int .i64 n) ∧ w'.cell? ⟨w.heap.size, 1, none⟩ = some (.int .i64 s) ∧ w'.cell? ⟨w.heap.size, 2, none⟩ = some (.int .i64 h) ∧ w'.cell? ⟨w.heap.size, 3, none⟩ = some (.int .u32 t))
      (first | (go_keep; done) | (go_split_ands; (repeat' apply And.intro) <;> first | assumption | (refine (Fr.cell (S := No) (by assumption) (by first | (simp; done) | (simp; omega) | omega) id).trans ?_; first | assumption | (simp; done) | (simp; assumption)) | (refine (Fr.frozen (S := No) (by assumption) (by first | (simp; done) | (simp; omega) | omega) id).trans ?_; first | assumption | (simp; done) | (simp; assumption))))
      ((go_at_call 31; refine (Chain' _ S n s h t q ok _ ws (HV.out.alloc _).drew hws HLEN.out hq0 hq1 l b HR.out hl).mono ?_; rintro e w3 ⟨⟨v3, rfl, hO3⟩, hf3⟩))
    go_wp2_with fail
    go_meet
    exact ⟨rfl, hO3.wide (fun i hi _ => by simp only [New, World.size_drew, World.size_alloc] at *; omega), ((Fr.refl No w).alloc _).drew.then hf3, hf3.keepNo (blk_at w rfl).drew⟩
  case rest =>
    obtain ⟨rfl, hO, hfw, hB⟩ := hcut
    obtain ⟨A6, c6, rfl, hc6, _⟩ := hO.slice
    have hl1 := hin.2
    go_wp2_with (at_make; go_loud (refine wp_make rfl _ _ 36 26 rfl (.int .u64 0) 8 Try.underlying36 info26 .i64 .i64 _ _ l.length rfl rfl rfl rfl (by omega) (by simp only [maxLen]; omega) ?_; intro w3 hO3 hf3 hlt3))
    rw [made_tab] at hO3
    obtain ⟨g, hg⟩ : ∃ g, g = wc.heap.size := ⟨_, rfl⟩
    rw [← hg] at hO3 hlt3 ⊢
    have hwg : w.heap.size < g := by have := hB.lt; omega
    have hO6 := (hO.keepNo hf3)
    have hfw6 := hfw.then hf3
    have hB6 := hf3.keepNo hB
    clear hO hfw hB hf3 hg
    go_loopw [28] (fun i wr => ∃ k : Nat, k ≤ l.length ∧ i = .int .i64 k ∧ StackInv w wr g n s h t ws l k (.slice A6 l.length c6)) (fun i _ => 64 - (intOf i).toNat)
    case atStart =>
      refine ⟨0, by omega, rfl, hO6, ?_, hfw6, hB6⟩
      rw [stackK, tab_congr (f' := fun _ => 0) (fun j _ => by simp)]
      exact hO3
    case round =>
      clear hO6 hO3 hfw6 hB6 hlt3
      obtain ⟨k, hk, rfl, hO, hW, hfw, hB⟩ := hrel
      have C := hB.cells
      by_cases hlt : k < l.length
      · obtain ⟨A7, c7, hv7, _, _, hc7⟩ := hO.rd
        rw [us_len] at hv7 hc7
        cases hv7
        obtain ⟨g7, o7, rfl, _, hc7⟩ := hc7 (by omega)
        have hck := hc7 k hlt
        rw [us_get _ _ _ hlt] at hck
        clear hc7
        obtain ⟨y, hy⟩ : ∃ y, y = l.getD k 0 := ⟨_, rfl⟩
        have hyin := hin.1 y (by rw [hy, List.getD_eq_getElem?_getD, List.getElem?_eq_getElem hlt]; exact List.getElem_mem hlt)
        rw [← hy] at hck
        have HY := Lib.hid hy
        clear hy
        obtain ⟨hy1, hy2⟩ := hyin
        go_wp2_with fail
        refine (Value_in _ _ _ _ _ _ ok hy1 hy2).mono ?_
        rintro e w5 ⟨rfl, hf5⟩
        have hO5 := hO.keepNo hf5
        have hW5 := hW.keepNo hf5
        have hfw5 := hfw.thenNo hf5
        have hB5 := hf5.keepNo hB
        clear hO hW hfw hB C hck
        have hb1 : (2 * y + 1) < (L : Int) := by have := HLEN.out; have := HL.out; omega
        have hb2 : (0 : Int) ≤ 2 * y + 1 := by omega
        have hcl2 : (2 * y + 1).toNat < ws.length := by have := HLEN.out; omega
        have hcy := HCELL.out (2 * y + 1).toNat hcl2
        rw [us_get _ _ _ hcl2, ← hfw5.cell (p := ⟨bb, o + (2 * y + 1).toNat, none⟩) hbl0 id] at hcy
        obtain ⟨u, hu⟩ : ∃ u, u = ws.getD (2 * y + 1).toNat 0 := ⟨_, rfl⟩
        rw [← hu] at hcy
        have HU := Lib.hid hu
        clear hu
        obtain ⟨g8, c8, hv8, _, _, _, hcells, hfree⟩ := hW5.form (by omega)
        cases hv8
        have hj : l.length - 1 - k < (us .u64 (stackK ws l k)).length := by rw [us_len, stackK, tab_len]; omega
        have hcg := hcells _ hj
        rw [List.getElem?_eq_getElem hj] at hcg
        have F1 := hfree (l.length - 1 - k)
        have hb3 : (l.length : Int) - 1 - (k : Int) < l.length := by omega
        have hb4 : (0 : Int) ≤ (l.length : Int) - 1 - (k : Int) := by omega
        have hb5 : ((l.length : Int) - 1 - (k : Int)).toNat = l.length - 1 - k := by omega
        clear hcells hfree
        go_wp2_with fail
        go_roundw
        case rel =>
          refine ⟨k + 1, by omega, by go_num, hO5.apart hW5 (by decide) _, ?_, hfw5.setCell (.inl (by simp; omega)) _, hB5.far (by simp; omega) _⟩
          have W := hW5.set (l.length - 1 - k) (.int .u64 u) hj
          rw [us_set, stackK, tab_set] at W
          rw [stackK, tab_congr (f' := fun j => if j = l.length - 1 - k then u else if l.length - 1 - j < k then ws.getD (2 * l.getD (l.length - 1 - j) 0 + 1).toNat 0 else 0) ?_]
          · exact W
          · intro j hjl
            by_cases hje : j = l.length - 1 - k
            · rw [if_pos hje, if_pos (by omega), HU.out, HY.out, hje, show l.length - 1 - (l.length - 1 - k) = k by omega]
            · rw [if_neg hje]
              by_cases h9 : l.length - 1 - j < k
              · rw [if_pos h9, if_pos (by omega)]
              · rw [if_neg h9, if_neg (by omega)]
        case measure => simp [intOf]; omega
      · have hk2 : k = l.length := by omega
        subst hk2
        go_wp2_with fail
        go_ret2
        refine ⟨⟨_, rfl, ?_⟩, hfw⟩
        have W := hW.wide (S' := New w.heap.size) (fun i hi _ => by simp only [New] at *; omega)
        rw [stackK, tab_congr (f' := fun j => ws.getD (2 * l.getD (l.length - 1 - j) 0 + 1).toNat 0) (fun j hj => by rw [if_pos (by omega)])] at W
        exact W

end Go.Proofs.Ytfglpigoljclbaa.H
