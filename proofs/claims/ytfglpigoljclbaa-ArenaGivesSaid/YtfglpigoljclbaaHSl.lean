/- Slices: one that reads as a list ('Rd'), one whose row is owned ('Own'), and how these stay under a frame. -/
import Derived.Test.YtfglpigoljclbaaHBase
import Derived.Maps.AppendAt
import Derived.Deep.RegionLaw
import Derived.Deep.QuietTactic
import Derived.BigQuiet
set_option linter.unusedVariables false
namespace Go.Proofs.Ytfglpigoljclbaa.H
open Go.RowKit

variable {S S' T : Nat → Prop} {a b c w w' : World} {e size n : Nat} {v : Value} {xs ys : List Value}

/-- The slice value v reads as xs (one cell an element); what is read lies in S. -/
def Rd (w : World) (S : Nat → Prop) (v : Value) (xs : List Value) : Prop :=
  ∃ A c, v = .slice A xs.length c ∧ xs.length ≤ c ∧ c ≤ maxLen ∧
    (0 < xs.length → ∃ g o, A = some ⟨g, o, none⟩ ∧ S g ∧ ∀ j, j < xs.length → w.cell? ⟨g, o + j, none⟩ = xs[j]?)

/-- The slice value v of n elements of type e (size cells each) owns the row of cells xs; its block lies in S. -/
def Own (w : World) (S : Nat → Prop) (e size : Nat) (v : Value) (n : Nat) (xs : List Value) : Prop :=
  w.ownsRow 0 e size v n xs ∧ ∀ k, v.ownBlock = some k → S k

theorem Rd.move (h : Rd w S v xs) (hs : ∀ g, S g → g < w.heap.size → w'.heap[g]? = w.heap[g]? ∧ S' g) : Rd w' S' v xs := by
  obtain ⟨A, c, hv, h1, h2, h3⟩ := h
  refine ⟨A, c, hv, h1, h2, fun hp => ?_⟩
  obtain ⟨g, o, hA, hS, hc⟩ := h3 hp
  have hlt : g < w.heap.size := by
    have := hc 0 hp
    rw [List.getElem?_eq_getElem hp] at this
    exact World.block_lt_of_cell? w _ this
  exact ⟨g, o, hA, (hs g hS hlt).2, fun j hj => (World.cell?_of_block (a := ⟨g, o + j, none⟩) (hs g hS hlt).1).trans (hc j hj)⟩

theorem Own.move (h : Own w S e size v n xs) (hs : ∀ g, S g → g < w.heap.size → w'.heap[g]? = w.heap[g]? ∧ S' g) : Own w' S' e size v n xs := by
  obtain ⟨h1, h2⟩ := h
  refine ⟨⟨h1.1, ?_⟩, fun k hk => (hs k (h2 k hk) (h1.lt k hk).2).2⟩
  rcases h1.2 with hn | ⟨g, cap, cur, rfl, hb, hgg, rest⟩
  · exact .inl hn
  · have hl := h1.lt g rfl
    exact .inr ⟨g, cap, cur, rfl, hb, ((hs g (h2 g rfl) hl.2).1).trans hgg, rest⟩

theorem Rd.keep (h : Rd a S v xs) (hf : Fr T a b) (hd : ∀ g, S g → ¬ T g) : Rd b S v xs :=
  h.move fun g hg hl => ⟨hf.block g hl (hd g hg), hg⟩
theorem Rd.keepNo (h : Rd a S v xs) (hf : Fr No a b) : Rd b S v xs := h.keep hf fun _ _ h => h
theorem Own.keep (h : Own a S e size v n xs) (hf : Fr T a b) (hd : ∀ g, S g → ¬ T g) : Own b S e size v n xs :=
  h.move fun g hg hl => ⟨hf.block g hl (hd g hg), hg⟩
theorem Own.keepNo (h : Own a S e size v n xs) (hf : Fr No a b) : Own b S e size v n xs := h.keep hf fun _ _ h => h

theorem Rd.wide (h : Rd w S v xs) (hs : ∀ g, S g → g < w.heap.size → S' g) : Rd w S' v xs := h.move fun g hg hl => ⟨rfl, hs g hg hl⟩
theorem Own.wide (h : Own w S e size v n xs) (hs : ∀ g, S g → g < w.heap.size → S' g) : Own w S' e size v n xs := h.move fun g hg hl => ⟨rfl, hs g hg hl⟩

theorem Own.slice (h : Own w S e size v n xs) : ∃ A c, v = .slice A n c ∧ n ≤ c ∧ c ≤ maxLen := by
  rcases h.1.2 with ⟨rfl, rfl⟩ | ⟨g, cap, cur, rfl, hb, hgg, h1, h2, _⟩
  · exact ⟨none, 0, rfl, Nat.le_refl _, by simp [maxLen]⟩
  · exact ⟨_, _, rfl, h1, h2⟩

theorem Own.lt (h : Own w S e size v n xs) : ∀ k, v.ownBlock = some k → k < w.heap.size := fun k hk => (h.1.lt k hk).2

/-- What is owned reads so. -/
theorem Own.rd (h : Own w S e 1 v n xs) : Rd w S v xs := by
  obtain ⟨⟨hl, h1⟩, h2⟩ := h
  have hn : xs.length = n := by simpa using hl
  rcases h1 with ⟨rfl, rfl⟩ | ⟨g, cap, cur, rfl, hb, hgg, h3, h4, h5, h6⟩
  · exact ⟨none, 0, by rw [hn], by omega, by simp [maxLen], fun hp => by omega⟩
  · refine ⟨some ⟨g, 0, none⟩, cap, by rw [hn], by omega, h4, fun hp => ⟨g, 0, rfl, h2 g rfl, fun j hj => ?_⟩⟩
    simp only [World.cell?, hgg, Nat.zero_add]
    rw [← h6]
    simp only [Nat.mul_one, Option.isSome_none, Bool.false_eq_true, if_false]
    rw [List.getElem?_take, if_pos (by omega), Array.getElem?_toList]

/-- An owned row that is not empty, written out. -/
theorem Own.form (h : Own w S e size v n xs) (hp : 0 < n) : ∃ g cap, v = .slice (some ⟨g, 0, none⟩) n cap ∧ S g ∧ g < w.heap.size ∧ n ≤ cap ∧ (∀ j, j < xs.length → w.cell? ⟨g, j, none⟩ = xs[j]?) ∧ (∀ j, w.frozen? ⟨g, j, none⟩ = false) := by
  have hlt := h.lt
  obtain ⟨⟨hl, h1⟩, h2⟩ := h
  rcases h1 with ⟨rfl, rfl⟩ | ⟨g, cap, cur, rfl, hb, hgg, h3, h4, h5, h6⟩
  · omega
  · refine ⟨g, cap, rfl, h2 g rfl, hlt g rfl, h3, fun j hj => ?_, fun j => by simp [World.frozen?, hgg]⟩
    simp only [World.cell?, hgg]
    have e : j < n * size := by omega
    rw [← h6]
    simp only [Option.isSome_none, Bool.false_eq_true, if_false]
    rw [List.getElem?_take, if_pos e, Array.getElem?_toList]

/-- One cell of an owned row is written. -/
theorem Own.set {g cap : Nat} (h : Own w S e size (.slice (some ⟨g, 0, none⟩) n cap) n xs) (j : Nat) (u : Value) (hj : j < xs.length) :
    Own (w.setCell ⟨g, j, none⟩ u) S e size (.slice (some ⟨g, 0, none⟩) n cap) n (xs.set j u) := by
  obtain ⟨⟨hl, h1⟩, h2⟩ := h
  rcases h1 with ⟨hc, _⟩ | ⟨g', cap', cur, hc, hb, hgg, h3, h4, h5, h6⟩
  · cases hc
  · cases hc
    refine ⟨⟨by simpa using hl, .inr ⟨g, cap, cur.setIfInBounds j u, rfl, hb, ?_, h3, h4, by simpa using h5, ?_⟩⟩, fun k hk => h2 k hk⟩
    · simp [World.setCell, Array.getElem?_modify, hgg]
    · rw [← h6, Array.toList_setIfInBounds, List.take_set]

theorem Own.far (h : Own w S e size v n xs) {p : Addr} (hp : ¬ S p.block) (u : Value) : Own (w.setCell p u) S e size v n xs :=
  h.move fun g hg hl => ⟨Below.heap_setCell w p u g (fun e => hp (e ▸ hg)), hg⟩
theorem Own.alloc (h : Own w S e size v n xs) (o : Obj) : Own (w.alloc o) S e size v n xs := h.keepNo ((Fr.refl No w).alloc o)
theorem Own.drew (h : Own w S e size v n xs) : Own w.drew S e size v n xs := h.keepNo ((Fr.refl No w).drew)
theorem Rd.alloc (h : Rd w S v xs) (o : Obj) : Rd (w.alloc o) S v xs := h.keepNo ((Fr.refl No w).alloc o)
theorem Rd.drew (h : Rd w S v xs) : Rd w.drew S v xs := h.keepNo ((Fr.refl No w).drew)

theorem Own.ne {g t : Nat} {cs : Array Value} (h : Own w S e size v n xs) (B : Blk w g cs t) (hne : e ≠ t) : ¬ v.ownBlock = some g := by
  intro hg
  rcases h.1.2 with ⟨rfl, _⟩ | ⟨g', cap, cur, rfl, hb, hgg, _⟩
  · cases hg
  · cases hg
    exact blk_ne hgg B hne rfl

/-- A store into a row of another type. -/
theorem Own.apart {e' size' g j cap n' : Nat} {ys : List Value} (h : Own w S e size v n xs) (h' : Own w S' e' size' (.slice (some ⟨g, 0, none⟩) n' cap) n' ys) (hne : e ≠ e') (u : Value) : Own (w.setCell ⟨g, j, none⟩ u) S e size v n xs := by
  have hg : ∃ cur, Blk w g cur e' := by
    rcases h'.1.2 with ⟨hc, _⟩ | ⟨g', cap, cur, hc, hb, hgg, _⟩
    · cases hc
    · cases hc; exact ⟨cur, hgg⟩
  obtain ⟨cur, hB⟩ := hg
  have hn := h.ne hB hne
  have h2 : Own w (fun i => S i ∧ i ≠ g) e size v n xs := ⟨h.1, fun k hk => ⟨h.2 k hk, fun e => hn (e ▸ hk)⟩⟩
  exact (h2.far (p := ⟨g, j, none⟩) (fun hh => hh.2 rfl) u).wide fun i hi _ => hi.1

/-- Blocks from n on. -/
def New (n : Nat) : Nat → Prop := fun i => n ≤ i

theorem Own.nil (w : World) (S : Nat → Prop) (e size : Nat) : Own w S e size (.slice none 0 0) 0 [] := ⟨⟨by simp, .inl ⟨rfl, rfl⟩⟩, fun k hk => by cases hk⟩

/-- A block of cells that was just laid, as an owned row. -/
theorem Own.lit (w : World) {cs : Array Value} {g : Nat} (hS : S g) (h : Blk w g cs e) (hl : cs.size = n * size) (hm : n ≤ maxLen) : Own w S e size (.slice (some ⟨g, 0, none⟩) n n) n cs.toList :=
  ⟨⟨by simpa using hl, .inr ⟨g, n, cs, rfl, Nat.zero_le _, h, Nat.le_refl _, hm, hl, by rw [List.take_of_length_le (by simpa using Nat.le_of_eq hl)]⟩⟩, fun k hk => by cases hk; exact hS⟩

/-- The first m elements. -/
theorem Own.take {m c : Nat} {A : Option Addr} (h : Own w S e size (.slice A n c) n xs) (hm : m ≤ n) : Own w S e size (.slice A m c) m (xs.take (m * size)) := by
  obtain ⟨⟨hl, h1⟩, h2⟩ := h
  have hmn : m * size ≤ n * size := Nat.mul_le_mul_right _ hm
  rcases h1 with ⟨hc, rfl⟩ | ⟨g', cap', cur, hc, hb, hgg, h3, h4, h5, h6⟩
  · cases hc
    obtain rfl : m = 0 := by omega
    exact ⟨⟨by simp, .inl ⟨rfl, rfl⟩⟩, fun k hk => by cases hk⟩
  · cases hc
    refine ⟨⟨by simp; omega, .inr ⟨g', c, cur, rfl, hb, hgg, by omega, h4, h5, ?_⟩⟩, fun k hk => h2 k hk⟩
    rw [← h6, List.take_take, Nat.min_eq_left hmn]

/-- Behind an append by the kit's law. -/
theorem Own.of_append {row : Option Nat} {v' : Value} {n' : Nat} {zs : List Value} (h : w'.ownsRow 0 e size v' n' zs) (hs : ∀ k, v'.ownBlock = some k → S k) : Own w' S e size v' n' zs := ⟨h, hs⟩

/-- S and all that is new. -/
def Gr (S : Nat → Prop) (w : World) : Nat → Prop := fun i => S i ∨ w.heap.size ≤ i

/-- The block of a slice value. -/
def Row (v : Value) : Nat → Prop := fun i => v.ownBlock = some i

theorem Own.gr (h : Own w S e size v n xs) : Own w (Gr S w) e size v n xs := h.wide fun _ h _ => .inl h

theorem news_of {cs : Array Value} {g : Nat} {t : TypeId} (h : Blk w g cs t) : ∀ j u, cs.toList[j]? = some u → w.cell? ((⟨g, 0, none⟩ : Addr).add j) = some u := by
  intro j u hj
  have e : ((⟨g, 0, none⟩ : Addr).add j) = ⟨g, j, none⟩ := by unfold Addr.add; split <;> simp_all
  rw [e, h.cells, ← Array.getElem?_toList, hj]

section
variable {P : Program} {ops : Array Oper} {rest : List Oper} {o : Oper} {act : Act} {Q : Exit → Act → World → Prop}

/-- The run of an append of m elements onto an owned slice. -/
theorem run_append_x (t ty el : TypeId) (z : Value) (bytes : Nat)
    (ht : P.underlying t = some (.slice el)) (hinfo : (P.info? el).map (fun i => (i.zero, i.size, i.bytes)) = some (some z, size, bytes)) (hz : z.cells.size = size) (hsz : 0 < size)
    (HO : Own w S el size v n xs) (ad : Addr) (m c : Nat) (news : List Value) (hl : news.length = m * size) (hnews : ∀ j u, news[j]? = some u → w.cell? (ad.add j) = some u) (h1 : ∀ u ∈ news, u.oneCell' = true)
    (h63 : n + m ≤ maxLen) (hb : (n + m) * bytes ≤ 140737488355328) :
    ∃ v' w', (Builtin.append_ #[t, t] ty #[v, .slice (some ad) m c]).run P w = .ok v' w' ∧ Own w' (Gr S w) el size v' (n + m) (xs ++ news) ∧ Fr (Row v) w w' ∧ (v' = .slice none 0 0 ↔ v = .slice none 0 0 ∧ m = 0) := by
  obtain ⟨i0, hi, hzz⟩ := Option.map_eq_some_iff.1 hinfo
  simp only [Prod.mk.injEq] at hzz
  obtain ⟨hz0, hz1, hz2⟩ := hzz
  obtain ⟨v', w', hr, h2, h3, h4, h5⟩ := run_append_own_at (P := P) w 0 t ty el i0 z size bytes ht hi hz0 hz1 hz2 hz hsz v n xs HO.1 ad m c news hl hnews h1 h63 hb (Nat.zero_le _)
  refine ⟨v', w', hr, ⟨h2, fun k hk => ?_⟩, (Fr.refl _ _).grown h3 (fun k hk => .inr hk), h4⟩
  rcases h5 with h5 | h5
  · exact .inl (HO.2 k (h5 ▸ hk))
  · rw [h5] at hk; cases hk; exact .inr (Nat.le_refl _)

theorem Own.form1 (h : Own w S e size v (n + 1) xs) : ∃ g cap, v = .slice (some ⟨g, 0, none⟩) (n + 1) cap := by
  obtain ⟨g, cap, hv, _⟩ := h.form (by omega)
  exact ⟨g, cap, hv⟩

/-- 'append(s, x)' of one element, which was laid in a new block ahead of it. -/
theorem run_append_1 (t ty el : TypeId) (z : Value) (bytes : Nat)
    (ht : P.underlying t = some (.slice el)) (hinfo : (P.info? el).map (fun i => (i.zero, i.size, i.bytes)) = some (some z, size, bytes)) (hz : z.cells.size = size) (hsz : 0 < size) (hby : 0 < bytes)
    (HO : Own w S el size v n xs) (cs : Array Value) (hcs : cs.size = size) (h1 : ∀ u ∈ cs.toList, u.oneCell' = true) (g : Nat) (hg : g = w.heap.size) (hb : (n + 1) * bytes ≤ 140737488355328) :
    ∃ g' cap w', (Builtin.append_ #[t, t] ty #[v, .slice (some ⟨g, 0, none⟩) 1 1]).run P (w.alloc (.cells cs el)) = .ok (.slice (some ⟨g', 0, none⟩) (n + 1) cap) w' ∧ Own w' (Gr S w) el size (.slice (some ⟨g', 0, none⟩) (n + 1) cap) (n + 1) (xs ++ cs.toList) ∧ Fr (Row v) w w' ∧ (v.ownBlock = some g' ∨ w.heap.size ≤ g') := by
  have hlen : n + 1 ≤ 140737488355328 := Nat.le_trans (Nat.le_mul_of_pos_right _ hby) hb
  subst hg
  obtain ⟨i0, hi, hzz⟩ := Option.map_eq_some_iff.1 hinfo
  simp only [Prod.mk.injEq] at hzz
  obtain ⟨hz0, hz1, hz2⟩ := hzz
  obtain ⟨v', w', hr, h2, h3, h4, h5⟩ := run_append_own_at (P := P) (w.alloc (.cells cs el)) 0 t ty el i0 z size bytes ht hi hz0 hz1 hz2 hz hsz v n xs (HO.alloc _).1 ⟨w.heap.size, 0, none⟩ 1 1 cs.toList (by simpa using hcs)
    (news_of (blk_new w cs el)) h1 (by simp only [maxLen]; omega) hb (Nat.zero_le _)
  have h6 : Own w' (Gr S w) el size v' (n + 1) (xs ++ cs.toList) := ⟨h2, fun k hk => by
    rcases h5 with h5 | h5
    · exact .inl (HO.2 k (h5 ▸ hk))
    · rw [h5] at hk; cases hk; exact .inr (by simp)⟩
  obtain ⟨g', cap, rfl⟩ := h6.form1
  refine ⟨g', cap, w', hr, h6, ((Fr.refl _ _).alloc _).grown h3 (fun k hk => .inr hk), ?_⟩
  rcases h5 with h5 | h5
  · exact .inl h5.symm
  · simp [Value.ownBlock] at h5; exact .inr (by omega)

theorem wp_append_1 (hgd : o.guard = none) (s x : Operand) (t el : TypeId) (z : Value) (bytes : Nat)
    (ho : o.op = .call { callee := .builtin .append, args := #[s, x], argTypes := #[t, t] })
    (ht : P.underlying t = some (.slice el)) (hinfo : (P.info? el).map (fun i => (i.zero, i.size, i.bytes)) = some (some z, size, bytes)) (hz : z.cells.size = size) (hsz : 0 < size) (hby : 0 < bytes)
    (HO : Own w S el size v n xs) (hs : act.eval s = v) (cs : Array Value) (g : Nat) (hx : act.eval x = .slice (some ⟨g, 0, none⟩) 1 1) (hg : g = w.heap.size) (hcs : cs.size = size) (h1 : ∀ u ∈ cs.toList, u.oneCell' = true) (hb : (n + 1) * bytes ≤ 140737488355328)
    (h : ∀ g' cap w', Own w' (Gr S w) el size (.slice (some ⟨g', 0, none⟩) (n + 1) cap) (n + 1) (xs ++ cs.toList) → Fr (Row v) w w' → (v.ownBlock = some g' ∨ w.heap.size ≤ g') → wpList P ops Q rest (act.put o.dst (.slice (some ⟨g', 0, none⟩) (n + 1) cap)) w') :
    wpList P ops Q (o :: rest) act (w.alloc (.cells cs el)) := by
  refine wpList_plain hgd fun K hK => ?_
  obtain ⟨g', cap, w', hr, h2, h3, h4⟩ := run_append_1 (P := P) t o.type el z bytes ht hinfo hz hsz hby HO cs hcs h1 g hg hb
  unfold Oper.wp execOp
  simp only [ho, resolve, invoke, builtin, Sem.run_bind, Sem.run_pure, Result.andThen_ok, List.map_toArray, List.map_cons, List.map_nil, hs, hx, hr]
  exact hK _ _ (h g' cap w' h2 h3 h4)

theorem wp_append_x (hgd : o.guard = none) (s x : Operand) (t el : TypeId) (z : Value) (bytes : Nat)
    (ho : o.op = .call { callee := .builtin .append, args := #[s, x], argTypes := #[t, t] })
    (ht : P.underlying t = some (.slice el)) (hinfo : (P.info? el).map (fun i => (i.zero, i.size, i.bytes)) = some (some z, size, bytes)) (hz : z.cells.size = size) (hsz : 0 < size)
    (HO : Own w S el size v n xs) (hs : act.eval s = v) (ad : Addr) (m c : Nat) (news : List Value) (hx : act.eval x = .slice (some ad) m c) (hl : news.length = m * size) (hnews : ∀ j u, news[j]? = some u → w.cell? (ad.add j) = some u) (h1 : ∀ u ∈ news, u.oneCell' = true)
    (h63 : n + m ≤ maxLen) (hb : (n + m) * bytes ≤ 140737488355328)
    (h : ∀ v' w', Own w' (Gr S w) el size v' (n + m) (xs ++ news) → Fr (Row v) w w' → (v' = .slice none 0 0 ↔ v = .slice none 0 0 ∧ m = 0) → wpList P ops Q rest (act.put o.dst v') w') :
    wpList P ops Q (o :: rest) act w := by
  refine wpList_plain hgd fun K hK => ?_
  obtain ⟨v', w', hr, h2, h3, h4⟩ := run_append_x (P := P) t o.type el z bytes ht hinfo hz hsz HO ad m c news hl hnews h1 h63 hb
  unfold Oper.wp execOp
  simp only [ho, resolve, invoke, builtin, Sem.run_bind, Sem.run_pure, Result.andThen_ok, List.map_toArray, List.map_cons, List.map_nil, hs, hx, hr]
  exact hK _ _ (h v' w' h2 h3 h4)

/-- The same as one step of a region that draws its order. -/
theorem step_append_1 {K : Act → World → Prop} {E : Prop} (hgd : o.guard = none) (s x : Operand) (t el : TypeId) (z : Value) (bytes : Nat)
    (ho : o.op = .call { callee := .builtin .append, args := #[s, x], argTypes := #[t, t] })
    (ht : P.underlying t = some (.slice el)) (hinfo : (P.info? el).map (fun i => (i.zero, i.size, i.bytes)) = some (some z, size, bytes)) (hz : z.cells.size = size) (hsz : 0 < size) (hby : 0 < bytes)
    (HO : Own w S el size v n xs) (hs : act.eval s = v) (cs : Array Value) (g : Nat) (hx : act.eval x = .slice (some ⟨g, 0, none⟩) 1 1) (hg : g = w.heap.size) (hcs : cs.size = size) (h1 : ∀ u ∈ cs.toList, u.oneCell' = true) (hb : (n + 1) * bytes ≤ 140737488355328)
    (h : ∀ g' cap w', Own w' (Gr S w) el size (.slice (some ⟨g', 0, none⟩) (n + 1) cap) (n + 1) (xs ++ cs.toList) → Fr (Row v) w w' → (v.ownBlock = some g' ∨ w.heap.size ≤ g') → K (act.put o.dst (.slice (some ⟨g', 0, none⟩) (n + 1) cap)) w') :
    if Region.wanted o (yielded ops act.tmps) = true then Oper.wp P o act (w.alloc (.cells cs el)) K Q else E := by
  have hw : Region.wanted o (yielded ops act.tmps) = true := by simp [Region.wanted, hgd]
  rw [if_pos hw]
  obtain ⟨g', cap, w', hr, h2, h3, h4⟩ := run_append_1 (P := P) t o.type el z bytes ht hinfo hz hsz hby HO cs hcs h1 g hg hb
  unfold Oper.wp execOp
  simp only [ho, resolve, invoke, builtin, Sem.run_bind, Sem.run_pure, Result.andThen_ok, List.map_toArray, List.map_cons, List.map_nil, hs, hx, hr]
  exact h g' cap w' h2 h3 h4

/-- 'make([]T, n)'. -/
theorem wp_make (hgd : o.guard = none) (l c : Operand) (t el : TypeId) (hop : o.op = Op.makeSlice t l c) (z : Value) (bytes : Nat)
    (ht : P.underlying t = some (.slice el)) (hinfo : (P.info? el).map (fun i => (i.zero, i.size, i.bytes)) = some (some z, size, bytes)) (kl kc : IntKind) (L C : Int) (m : Nat) (hl : act.eval l = .int kl L) (hc : act.eval c = .int kc C) (hL : L = (m : Int)) (hC : C = (m : Int))
    (b2 : bytes * m ≤ 281474976710656) (b3 : m ≤ maxLen)
    (hK : ∀ w', Own w' (New w.heap.size) el size (.slice (some ⟨w.heap.size, 0, none⟩) m m) m (madeCells z.cells (m * size)).toList → Fr No w w' → w.heap.size < w'.heap.size → wpList P ops Q rest (act.put o.dst (.slice (some ⟨w.heap.size, 0, none⟩) m m)) w') :
    wpList P ops Q (o :: rest) act w := by
  obtain ⟨i0, hi, hzz⟩ := Option.map_eq_some_iff.1 hinfo
  simp only [Prod.mk.injEq] at hzz
  obtain ⟨hz0, hz1, hz2⟩ := hzz
  refine wpList_make_full w hgd l c t hop 0 el i0 z size ht hi hz0 hz1 kl kc L C m hl hc hL hC (by rw [hz2]; exact b2) b3 (Nat.zero_le _) fun w' h1 h2 => ?_
  have h3 := (h1.lt w.heap.size rfl).2
  exact hK w' ⟨h1, fun k hk => by cases hk; exact Nat.le_refl _⟩ ((Fr.refl No _).grown h2 (fun k hk => by cases hk)) h3

end

/-- What is owned in rows of another type stays behind a write to one row. -/
theorem Own.keepRow {e' size' n' : Nat} {v' : Value} {ys : List Value} (h : Own a S e size v n xs) (h' : Own a S' e' size' v' n' ys) (hf : Fr (Row v') a b) (hne : e ≠ e') : Own b S e size v n xs := by
  have h2 : Own a (fun i => S i ∧ v'.ownBlock ≠ some i) e size v n xs := ⟨h.1, fun k hk => ⟨h.2 k hk, fun hk' => by
    rcases h'.1.2 with ⟨rfl, _⟩ | ⟨g', cap, cur, rfl, hb, hgg, _⟩
    · cases hk'
    · cases hk'
      exact h.ne (g := g') (t := e') (cs := cur) hgg hne hk⟩⟩
  exact (h2.keep hf (fun g hg hr => hg.2 hr)).wide fun i hi _ => hi.1

/-- Rows of two types are two rows. -/
theorem Own.apart_rows {e' size' n' g g' c c' : Nat} {ys : List Value} (h : Own w S e size (.slice (some ⟨g, 0, none⟩) n c) n xs) (h' : Own w S' e' size' (.slice (some ⟨g', 0, none⟩) n' c') n' ys) (hne : e ≠ e') : g ≠ g' := by
  rintro rfl
  rcases h'.1.2 with ⟨hc, _⟩ | ⟨g', cap, cur, hc, hb, hgg, _⟩
  · cases hc
  · cases hc
    exact h.ne (g := g) (t := e') (cs := cur) hgg hne rfl

/-- Numbers as values. -/
def us (k : IntKind) (xs : List Int) : List Value := xs.map (.int k)
theorem us_len (k : IntKind) (xs : List Int) : (us k xs).length = xs.length := by simp [us]
theorem us_get (k : IntKind) (xs : List Int) (j : Nat) (h : j < xs.length) : (us k xs)[j]? = some (.int k (xs.getD j 0)) := by simp [us, h]
theorem us_set (k : IntKind) (xs : List Int) (j : Nat) (x : Int) : (us k xs).set j (.int k x) = us k (xs.set j x) := by simp [us, List.map_set]
theorem us_one (k : IntKind) (xs : List Int) : ∀ u ∈ us k xs, u.oneCell' = true := by
  intro u hu
  simp only [us, List.mem_map] at hu
  obtain ⟨x, _, rfl⟩ := hu
  rfl
theorem us_append (k : IntKind) (xs ys : List Int) : us k (xs ++ ys) = us k xs ++ us k ys := by simp [us]
theorem us_take (k : IntKind) (xs : List Int) (m : Nat) : (us k xs).take m = us k (xs.take m) := by simp [us, List.map_take]

/-- N numbers, told one by one. -/
def tab (N : Nat) (f : Nat → Int) : List Int := (List.range N).map f
theorem tab_len (N : Nat) (f : Nat → Int) : (tab N f).length = N := by simp [tab]
theorem tab_get (N : Nat) (f : Nat → Int) (j : Nat) (h : j < N) : (tab N f).getD j 0 = f j := by simp [tab, h]
theorem tab_set (N : Nat) (f : Nat → Int) (k : Nat) (x : Int) : (tab N f).set k x = tab N (fun j => if j = k then x else f j) := by
  apply List.ext_getElem?
  intro j
  simp only [tab, List.getElem?_set, List.getElem?_map, List.length_map, List.length_range]
  by_cases hk : k = j
  · subst hk
    by_cases hl : k < N <;> simp [hl]
  · by_cases hl : j < N <;> simp [hl, hk, Ne.symm hk]
theorem tab_congr {N : Nat} {f f' : Nat → Int} (h : ∀ j, j < N → f j = f' j) : tab N f = tab N f' := by
  apply List.map_congr_left
  intro j hj
  rw [h j (by simpa using hj)]
theorem made_tab (k : IntKind) (N : Nat) : (madeCells (Value.int k 0).cells (N * 1)).toList = us k (tab N (fun _ => 0)) := by
  show (madeCells #[Value.int k 0] (N * 1)).toList = _
  rw [toList_madeCells_one, Nat.mul_one]
  apply List.ext_getElem?
  intro j
  by_cases hl : j < N <;> simp [us, tab, hl]

end Go.Proofs.Ytfglpigoljclbaa.H
