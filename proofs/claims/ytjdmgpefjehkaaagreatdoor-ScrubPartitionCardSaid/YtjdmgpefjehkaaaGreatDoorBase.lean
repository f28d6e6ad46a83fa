/- The words of this proof: runs, labels, tables as plain data; how they lie in memory; 'Ext': whatever was there is there as it was. No program in sight. -/
import Derived.WalkKit
import Derived.WalkLawsBesides
import Derived.WalkSpells
import Derived.KernelRfl
import Derived.Lib.Hide
import Derived.Deep.LoopGhost
import Derived.Maps.AppendAt
import Derived.Deep.AppendLies
import Derived.OwnWalk
import Derived.Laws.OwnMore
namespace Go.Proofs.YtjdmgpefjehkaaaGreatDoor
open Go.RowKit

/-! ### worlds -/
/-- Whatever was there is there as it was. -/
def Ext (w w' : World) : Prop := Below w.heap.size w w'
theorem Ext.refl (w : World) : Ext w w := Below.refl _ _
theorem Ext.trans {a b c : World} (h : Ext a b) (k : Ext b c) : Ext a c := Below.trans h (Below.mono k h.size)
theorem Ext.le {a b : World} (h : Ext a b) : a.heap.size ≤ b.heap.size := h.size
theorem Ext.alloc {a w : World} (h : Ext a w) (o : Obj) : Ext a (w.alloc o) := Below.alloc h h.size o
theorem Ext.drew {a w : World} (h : Ext a w) : Ext a w.drew := Below.drew h
theorem Ext.drewN {a w : World} (h : Ext a w) (n : Nat) : Ext a (w.drewN n) := ⟨h.os, h.tape, h.output, h.size, h.block⟩
theorem Ext.set {a w : World} (h : Ext a w) {p : Addr} (hp : a.heap.size ≤ p.block) (u : Value) : Ext a (w.setCell p u) := Below.setCell h hp u
theorem Ext.grown {a w w' : World} (h : Ext a w) {row : Option Nat} (hg : w.grownBy w' row) (hr : ∀ k, row = some k → a.heap.size ≤ k) : Ext a w' := Below.grown h hg h.size hr
theorem Ext.cell {w w' : World} (h : Ext w w') {p : Addr} {v : Value} (hp : w.cell? p = some v) : w'.cell? p = some v :=
  (Below.cell h (World.block_lt_of_cell? w p hp)).trans hp

/-! ### a block of the call's own, known whole -/
def Blk (w : World) (g : Nat) (t : TypeId) (cs : List Value) : Prop := w.heap[g]? = some (.cells cs.toArray t (0, 0))
theorem Blk.lt {w : World} {g : Nat} {t : TypeId} {cs : List Value} (h : Blk w g t cs) : g < w.heap.size := by
  rcases Nat.lt_or_ge g w.heap.size with hl | hg
  · exact hl
  · unfold Blk at h; rw [Array.getElem?_eq_none hg] at h; cases h
theorem Blk.cell {w : World} {g : Nat} {t : TypeId} {cs : List Value} (h : Blk w g t cs) (i : Nat) {v : Value} (hv : cs[i]? = some v) : w.cell? ⟨g, i, none⟩ = some v := by
  have := cell_of_row w g i cs.toArray t (0, 0) h
  rw [this]; simpa using hv
theorem Blk.frozen {w : World} {g : Nat} {t : TypeId} {cs : List Value} (h : Blk w g t cs) (i : Nat) : w.frozen? ⟨g, i, none⟩ = false := by
  unfold Blk at h
  simp [World.frozen?, h]
theorem Blk.new (w : World) (t : TypeId) (cs : List Value) : Blk (w.alloc (.cells cs.toArray t)) w.heap.size t cs := heap_alloc_new w _
theorem Blk.new_at {w : World} {g : Nat} (h : w.heap.size = g) (t : TypeId) (cs : List Value) : Blk (w.alloc (.cells cs.toArray t)) g t cs := h ▸ Blk.new w t cs
theorem Blk.drew {w : World} {g : Nat} {t : TypeId} {cs : List Value} (h : Blk w g t cs) : Blk w.drew g t cs := h
theorem Blk.drewN {w : World} {g : Nat} {t : TypeId} {cs : List Value} (h : Blk w g t cs) (n : Nat) : Blk (w.drewN n) g t cs := h
theorem Blk.ext {w w' : World} {g : Nat} {t : TypeId} {cs : List Value} (h : Blk w g t cs) (k : Ext w w') : Blk w' g t cs := (k.block g h.lt).trans h
theorem Blk.alloc {w : World} {g : Nat} {t : TypeId} {cs : List Value} (h : Blk w g t cs) (o : Obj) : Blk (w.alloc o) g t cs := h.ext ((Ext.refl w).alloc o)
theorem Blk.set {w : World} {g : Nat} {t : TypeId} {cs : List Value} (h : Blk w g t cs) (i : Nat) (u : Value) : Blk (w.setCell ⟨g, i, none⟩ u) g t (cs.set i u) := by
  unfold Blk at h ⊢
  simp [World.setCell, Array.getElem?_modify, h]
theorem Blk.far {w : World} {g : Nat} {t : TypeId} {cs : List Value} (h : Blk w g t cs) {p : Addr} (hp : g ≠ p.block) (u : Value) : Blk (w.setCell p u) g t cs := (Below.heap_setCell w p u g hp).trans h
theorem Blk.grown {w w' : World} {g : Nat} {t : TypeId} {cs : List Value} (h : Blk w g t cs) {row : Option Nat} (hb : w.grownBy w' row) (hg : some g ≠ row) : Blk w' g t cs := (hb.block g h.lt hg).trans h

/-! ### numbers -/
def I64 (n : Int) : Prop := -9223372036854775808 ≤ n ∧ n ≤ 9223372036854775807

/-! ### a slice that reads as cells -/
def Sl (w : World) (A : Option Addr) (cs : List Value) : Prop :=
  cs ≠ [] → ∃ b o, A = some ⟨b, o, none⟩ ∧ ∀ j v, cs[j]? = some v → w.cell? ⟨b, o + j, none⟩ = some v
theorem Sl.ext {w w' : World} {A : Option Addr} {cs : List Value} (h : Sl w A cs) (k : Ext w w') : Sl w' A cs := fun hn => by
  obtain ⟨b, o, e, hc⟩ := h hn
  exact ⟨b, o, e, fun j v hv => k.cell (hc j v hv)⟩
theorem Sl.nil (w : World) (A : Option Addr) : Sl w A [] := fun h => absurd rfl h
theorem flatMap_at {α : Type} (f : α → List Value) (s : Nat) (hs : ∀ x, (f x).length = s) : ∀ (l : List α) (i j : Nat) (h : i < l.length), j < s → (l.flatMap f)[i * s + j]? = (f l[i])[j]?
  | x :: r, 0, j, _, hj => by
    rw [List.flatMap_cons, List.getElem?_append_left (by rw [hs]; omega)]
    simp
  | x :: r, i + 1, j, h, hj => by
    rw [List.flatMap_cons, List.getElem?_append_right (by rw [hs, Nat.add_mul]; omega), hs]
    have : (i + 1) * s + j - s = i * s + j := by rw [Nat.add_mul]; omega
    rw [this, flatMap_at f s hs r i j (by simpa using h) hj]
    simp
theorem flatMap_len {α : Type} (f : α → List Value) (s : Nat) (hs : ∀ x, (f x).length = s) : ∀ l : List α, (l.flatMap f).length = l.length * s
  | [] => by simp
  | x :: r => by rw [List.flatMap_cons, List.length_append, hs, flatMap_len f s hs r, List.length_cons, Nat.add_mul]; omega
theorem Sl.at_ {α : Type} {f : α → List Value} {s : Nat} (hs : ∀ x, (f x).length = s) (h0 : 0 < s) {w : World} {A : Option Addr} {l : List α} (h : Sl w A (l.flatMap f)) {i : Nat} (hi : i < l.length) :
    ∃ b o, A = some ⟨b, o, none⟩ ∧ ∀ j v, (f l[i])[j]? = some v → w.cell? ⟨b, o + (i * s + j), none⟩ = some v := by
  have hne : l.flatMap f ≠ [] := by
    intro he
    have := flatMap_len f s hs l
    rw [he] at this
    have h2 : 1 * 1 ≤ l.length * s := Nat.mul_le_mul (by omega) (by omega)
    simp only [List.length_nil] at this
    omega
  obtain ⟨b, o, e, hc⟩ := h hne
  refine ⟨b, o, e, fun j v hv => hc _ v ?_⟩
  have hj : j < s := by
    have := (List.getElem?_eq_some_iff.1 hv).1
    rw [hs] at this
    exact this
  rw [flatMap_at f s hs l i j hi hj]
  exact hv
/-- What the call itself owns reads. -/
theorem Sl.own {w : World} {base : Nat} {e : TypeId} {size n : Nat} {A : Option Addr} {cap : Nat} {cs : List Value} (h : w.ownsRow base e size (.slice A n cap) n cs) : Sl w A cs := by
  intro hn
  rcases h.2 with ⟨h1, h2⟩ | ⟨g, cap', cur, h1, _, hh, _, _, _, ht⟩
  · have := h.1
    subst h2
    simp at this
    exact absurd this hn
  · injection h1 with h1 _ h3
    subst h1
    refine ⟨g, 0, rfl, fun j v hv => ?_⟩
    have := h.cells (g := g) rfl j v hv
    have hadd : (⟨g, 0, none⟩ : Addr).add j = ⟨g, 0 + j, none⟩ := by unfold Addr.add; split <;> simp_all
    rwa [hadd] at this
theorem Sl.blk {w : World} {g : Nat} {t : TypeId} {cs : List Value} (h : Blk w g t cs) : Sl w (some ⟨g, 0, none⟩) cs := fun _ => ⟨g, 0, rfl, fun j v hv => by rw [Nat.zero_add]; exact h.cell j hv⟩
theorem own_slice {w : World} {base n : Nat} {e : TypeId} {size : Nat} {v : Value} {xs : List Value} (h : w.ownsRow base e size v n xs) : ∃ A c, v = .slice A n c ∧ n ≤ c := by
  rcases h.2 with ⟨rfl, rfl⟩ | ⟨g, cap, cur, rfl, _, _, hc, _⟩
  · exact ⟨none, 0, rfl, Nat.le_refl _⟩
  · exact ⟨_, cap, rfl, hc⟩

/-! ### append of one element to a row of the call's own -/
section
variable {P : Program} {ops : Array Oper} {rest : List Oper} {o : Oper} {a : Act} {Q : Exit → Act → World → Prop}
theorem app1 {W : World} (base : Nat) (hgd : o.guard = none) (s x : Operand) (t e : TypeId) (z : Value) (size bytes : Nat)
    (ho : o.op = .call { callee := .builtin .append, args := #[s, x], argTypes := #[t, t] })
    (ht : P.underlying t = some (.slice e)) (hinfo : (P.info? e).map (fun i => (i.zero, i.size, i.bytes)) = some (some z, size, bytes)) (hz : z.cells.size = size) (hsz : 0 < size) (hb0 : 0 < bytes)
    (v : Value) (n : Nat) (xs y : List Value) (hy : y.length = size) (h1 : ∀ u ∈ y, u.oneCell' = true) (hs : a.eval s = v) (hx : a.eval x = .slice (some ⟨W.heap.size, 0, none⟩) 1 1)
    (HO : W.ownsRow base e size v n xs) (hbase : base ≤ W.heap.size) (hl : ((n : Int) + 1) * bytes ≤ 140737488355328)
    (h : ∀ v1 w1, w1.ownsRow base e size v1 (n + 1) (xs ++ y) → W.grownBy w1 v.ownBlock → wpList P ops Q rest (a.put o.dst v1) w1) :
    wpList P ops Q (o :: rest) a (W.alloc (.cells y.toArray e)) := by
  obtain ⟨i0, hi, hzz⟩ := Option.map_eq_some_iff.1 hinfo
  simp only [Prod.mk.injEq] at hzz
  obtain ⟨hz0, hz1, hz2⟩ := hzz
  have hl' : (n + 1) * bytes ≤ 140737488355328 := by
    have : ((n + 1 : Nat) : Int) * (bytes : Int) ≤ 140737488355328 := by simpa using hl
    rw [← Int.natCast_mul] at this
    omega
  have hlen : n + 1 ≤ 140737488355328 := Nat.le_trans (Nat.le_mul_of_pos_right _ hb0) hl'
  refine wpList_append_own_at (W.alloc (.cells y.toArray e)) hgd s x t ho base e i0 z size bytes ht hi hz0 hz1 hz2 hz hsz v n xs hs (HO.alloc _) ⟨W.heap.size, 0, none⟩ 1 1 y hx (by omega)
    (World.news_of_block (cs := y.toArray) (t := e) (fr := (0, 0)) (heap_alloc_new W _)) (by simpa using h1) (by simp only [maxLen]; omega) hl' (by simp; omega) ?_
  intro v1 w1 hown hg _ _
  exact h v1 w1 hown (World.grownBy.trans (World.grownBy_alloc W _ _) hg)
/-- The same, the new block's number as the walk spells it. -/
theorem app2 {W : World} (base : Nat) (hgd : o.guard = none) (s x : Operand) (t e : TypeId) (z : Value) (size bytes : Nat)
    (ho : o.op = .call { callee := .builtin .append, args := #[s, x], argTypes := #[t, t] })
    (ht : P.underlying t = some (.slice e)) (hinfo : (P.info? e).map (fun i => (i.zero, i.size, i.bytes)) = some (some z, size, bytes)) (hz : z.cells.size = size) (hsz : 0 < size) (hb0 : 0 < bytes)
    (v : Value) (n : Nat) (xs y : List Value) (hy : y.length = size) (h1 : ∀ u ∈ y, u.oneCell' = true) (hs : a.eval s = v) (g : Nat) (hx : a.eval x = .slice (some ⟨g, 0, none⟩) 1 1) (hgs : W.heap.size = g)
    (HO : W.ownsRow base e size v n xs) (hbase : base ≤ W.heap.size) (hl : ((n : Int) + 1) * bytes ≤ 140737488355328)
    (h : ∀ v1 w1, w1.ownsRow base e size v1 (n + 1) (xs ++ y) → W.grownBy w1 v.ownBlock → wpList P ops Q rest (a.put o.dst v1) w1) :
    wpList P ops Q (o :: rest) a (W.alloc (.cells y.toArray e)) := by
  subst hgs
  exact app1 base hgd s x t e z size bytes ho ht hinfo hz hsz hb0 v n xs y hy h1 hs hx HO hbase hl h
/-- The same as a step of a region that draws its order; where the element lies is said by 'Blk'. -/
theorem step_app {K : Act → World → Prop} {E : Prop} {W : World} (base : Nat) (hgd : o.guard = none) (s x : Operand) (t e : TypeId) (z : Value) (size bytes : Nat)
    (ho : o.op = .call { callee := .builtin .append, args := #[s, x], argTypes := #[t, t] })
    (ht : P.underlying t = some (.slice e)) (hinfo : (P.info? e).map (fun i => (i.zero, i.size, i.bytes)) = some (some z, size, bytes)) (hz : z.cells.size = size) (hsz : 0 < size) (hb0 : 0 < bytes)
    (v : Value) (n : Nat) (xs y : List Value) (hy : y.length = size) (h1 : ∀ u ∈ y, u.oneCell' = true) (hs : a.eval s = v) (g : Nat) (hx : a.eval x = .slice (some ⟨g, 0, none⟩) 1 1) (hB : Blk W g e y)
    (HO : W.ownsRow base e size v n xs) (hbase : base ≤ W.heap.size) (hl : ((n : Int) + 1) * bytes ≤ 140737488355328)
    (h : ∀ v1 w1, w1.ownsRow base e size v1 (n + 1) (xs ++ y) → W.grownBy w1 v.ownBlock → K (a.put o.dst v1) w1) :
    if Region.wanted o (yielded ops a.tmps) = true then Oper.wp P o a W K Q else E := by
  obtain ⟨i0, hi, hzz⟩ := Option.map_eq_some_iff.1 hinfo
  simp only [Prod.mk.injEq] at hzz
  obtain ⟨hz0, hz1, hz2⟩ := hzz
  have hl' : (n + 1) * bytes ≤ 140737488355328 := by
    have : ((n + 1 : Nat) : Int) * (bytes : Int) ≤ 140737488355328 := by simpa using hl
    rw [← Int.natCast_mul] at this
    omega
  have hlen : n + 1 ≤ 140737488355328 := Nat.le_trans (Nat.le_mul_of_pos_right _ hb0) hl'
  exact step_append_lies W hgd s x t ho base e i0 z size bytes ht hi hz0 hz1 hz2 hz hsz v n xs hs HO ⟨g, 0, none⟩ 1 1 y hx (by omega)
    (World.news_of_block (cs := y.toArray) (t := e) (fr := (0, 0)) hB) h1 (by omega) (by simp only [maxLen]; omega) hl' hbase W.heap.size rfl
    (fun g' cap w' hown hg _ _ => h _ w' hown hg)
end
theorem own_new (w : World) (base : Nat) (e : TypeId) (size : Nat) (hb : base ≤ w.heap.size) : (w.alloc (.cells #[] e)).ownsRow base e size (.slice (some ⟨w.heap.size, 0, none⟩) 0 0) 0 [] :=
  ⟨by simp, .inr ⟨w.heap.size, 0, #[], rfl, hb, heap_alloc_new w _, Nat.le_refl _, by simp [maxLen], by simp, by simp⟩⟩
theorem Ext.own {a w w' : World} (h : Ext a w) {e : TypeId} {size n : Nat} {v : Value} {xs : List Value} (ho : w.ownsRow a.heap.size e size v n xs) (hg : w.grownBy w' v.ownBlock) : Ext a w' :=
  h.grown hg fun k hk => (ho.lt k hk).1

theorem own_far {w : World} {base : Nat} {e : TypeId} {size n : Nat} {v : Value} {xs : List Value} {g : Nat} {t : TypeId} {cs : List Value} (h : w.ownsRow base e size v n xs) (hB : Blk w g t cs) (hne : e ≠ t) : some g ≠ v.ownBlock := by
  rcases h.2 with ⟨rfl, _⟩ | ⟨g', cap, cur, rfl, _, hh, _⟩
  · simp [Value.ownBlock]
  · intro he
    have : g = g' := by simpa [Value.ownBlock] using he
    subst this
    unfold Blk at hB
    rw [hh] at hB
    injection hB with hB
    injection hB with _ ht
    exact hne ht

/-! ### lists of numbers -/
def intCells (l : List Int) : List Value := l.map (.int .i64)
theorem intCells_len (l : List Int) : (intCells l).length = l.length := by simp [intCells]
theorem intCells_snoc (l : List Int) (x : Int) : intCells l ++ [.int .i64 x] = intCells (l ++ [x]) := by simp [intCells]
structure Ints (w : World) (A : Option Addr) (l : List Int) : Prop where
  sl : Sl w A (intCells l)
  ok : ∀ x ∈ l, I64 x
  len : (l.length : Int) ≤ 17592186044416
theorem Ints.ext {w w' : World} {A : Option Addr} {l : List Int} (h : Ints w A l) (k : Ext w w') : Ints w' A l := ⟨h.sl.ext k, h.ok, h.len⟩
theorem Ints.at_ {w : World} {A : Option Addr} {l : List Int} (h : Ints w A l) {i : Nat} (hi : i < l.length) : ∃ b o, A = some ⟨b, o, none⟩ ∧ w.cell? ⟨b, o + i, none⟩ = some (.int .i64 l[i]) := by
  obtain ⟨b, o, e, hc⟩ := h.sl (by intro hn; have := intCells_len l; rw [hn] at this; simp at this; omega)
  exact ⟨b, o, e, hc i _ (by simp [intCells, hi])⟩
theorem Ints.okAt {w : World} {A : Option Addr} {l : List Int} (h : Ints w A l) {i : Nat} (hi : i < l.length) : I64 l[i] := h.ok _ (List.getElem_mem hi)
theorem Ints.own {w : World} {base : Nat} {e : TypeId} {A : Option Addr} {cap : Nat} {l : List Int} (h : w.ownsRow base e 1 (.slice A l.length cap) l.length (intCells l)) (hok : ∀ x ∈ l, I64 x) (hl : (l.length : Int) ≤ 17592186044416) : Ints w A l := ⟨Sl.own h, hok, hl⟩

/-! ### runs -/
structure Run where
  f : Int
  c : Int
deriving DecidableEq
def Run.ok (r : Run) : Prop := I64 r.f ∧ I64 r.c
def runCells (r : Run) : List Value := [.int .i64 r.f, .int .i64 r.c]
theorem runCells_len (r : Run) : (runCells r).length = 2 := rfl
structure Runs (w : World) (A : Option Addr) (rs : List Run) : Prop where
  sl : Sl w A (rs.flatMap runCells)
  ok : ∀ r ∈ rs, r.ok
  len : (rs.length : Int) ≤ 8796093022208
theorem Runs.ext {w w' : World} {A : Option Addr} {rs : List Run} (h : Runs w A rs) (k : Ext w w') : Runs w' A rs := ⟨h.sl.ext k, h.ok, h.len⟩
theorem Runs.at_ {w : World} {A : Option Addr} {rs : List Run} (h : Runs w A rs) {i : Nat} (hi : i < rs.length) :
    ∃ b o, A = some ⟨b, o, none⟩ ∧ w.cell? ⟨b, o + i * 2, none⟩ = some (.int .i64 rs[i].f) ∧ w.cell? ⟨b, o + i * 2 + 1, none⟩ = some (.int .i64 rs[i].c) := by
  obtain ⟨b, o, e, hc⟩ := h.sl.at_ runCells_len (by omega) hi
  exact ⟨b, o, e, hc 0 _ rfl, by have := hc 1 _ rfl; rwa [← Nat.add_assoc] at this⟩
theorem Runs.okAt {w : World} {A : Option Addr} {rs : List Run} (h : Runs w A rs) {i : Nat} (hi : i < rs.length) : rs[i].ok := h.ok _ (List.getElem_mem hi)

/-- The existing tracks of a run. -/
def clip (r : Run) : Run :=
  if r.c < 1 ∨ 128 ≤ r.f then ⟨0, 0⟩
  else
    if (if r.f < 0 ∨ r.c < 128 - r.f then min 128 (r.f + r.c) else 128) ≤ max 0 r.f then ⟨0, 0⟩
    else ⟨max 0 r.f, (if r.f < 0 ∨ r.c < 128 - r.f then min 128 (r.f + r.c) else 128) - max 0 r.f⟩
theorem clip_bd (r : Run) : 0 ≤ (clip r).f ∧ 0 ≤ (clip r).c ∧ (clip r).f + (clip r).c ≤ 128 := by
  unfold clip
  have he : (if r.f < 0 ∨ r.c < 128 - r.f then min 128 (r.f + r.c) else 128) ≤ 128 := by split <;> omega
  generalize (if r.f < 0 ∨ r.c < 128 - r.f then min 128 (r.f + r.c) else 128) = e at he ⊢
  by_cases h1 : r.c < 1 ∨ 128 ≤ r.f
  · rw [if_pos h1]; exact ⟨by decide, by decide, by decide⟩
  · rw [if_neg h1]
    by_cases h2 : e ≤ max 0 r.f
    · rw [if_pos h2]; exact ⟨by decide, by decide, by decide⟩
    · rw [if_neg h2]; refine ⟨?_, ?_, ?_⟩ <;> dsimp only <;> omega
theorem clip_zero (r : Run) (h : (clip r).c = 0) : (clip r).f = 0 := by
  unfold clip at *
  generalize (if r.f < 0 ∨ r.c < 128 - r.f then min 128 (r.f + r.c) else 128) = e at *
  by_cases h1 : r.c < 1 ∨ 128 ≤ r.f
  · rw [if_pos h1]
  · rw [if_neg h1] at h ⊢
    by_cases h2 : e ≤ max 0 r.f
    · rw [if_pos h2]
    · rw [if_neg h2] at h
      dsimp only at h
      omega
theorem clip_mem (r : Run) (t : Int) (h0 : 0 ≤ t) (h1 : t < 128) : ((clip r).f ≤ t ∧ t < (clip r).f + (clip r).c) ↔ (1 ≤ r.c ∧ r.f ≤ t ∧ t < r.f + r.c) := by
  unfold clip
  by_cases hA : r.c < 1 ∨ 128 ≤ r.f
  · rw [if_pos hA]; dsimp only; omega
  · rw [if_neg hA]
    by_cases hB : r.f < 0 ∨ r.c < 128 - r.f
    · rw [if_pos hB]
      by_cases hC : min 128 (r.f + r.c) ≤ max 0 r.f
      · rw [if_pos hC]; dsimp only; omega
      · rw [if_neg hC]; dsimp only; omega
    · rw [if_neg hB]
      by_cases hC : (128 : Int) ≤ max 0 r.f
      · rw [if_pos hC]; dsimp only; omega
      · rw [if_neg hC]; dsimp only; omega
def has (r : Run) (t : Int) : Bool := decide ((clip r).f ≤ t) && decide (t < (clip r).f + (clip r).c)
def seqR (r : Run) : List Int := (List.range (clip r).c.toNat).map fun i : Nat => (clip r).f + (i : Int)
def seq (rs : List Run) : List Int := rs.flatMap seqR
theorem seqR_len (r : Run) : ((seqR r).length : Int) = (clip r).c := by
  have := clip_bd r
  simp [seqR]; omega
theorem seq_take (rs : List Run) (k : Nat) (h : k < rs.length) : seq (rs.take (k + 1)) = seq (rs.take k) ++ seqR rs[k] := by
  unfold seq
  rw [List.take_succ_eq_append_getElem h, List.flatMap_append]
  simp
theorem seq_len_take (rs : List Run) (k : Nat) (h : k < rs.length) : ((seq (rs.take (k + 1))).length : Int) = (seq (rs.take k)).length + (clip rs[k]).c := by
  rw [seq_take rs k h, List.length_append, Int.natCast_add, seqR_len]
theorem seq_le (rs : List Run) : ((seq rs).length : Int) ≤ 128 * rs.length := by
  induction rs with
  | nil => simp [seq]
  | cons r rs ih =>
    have h1 := seqR_len r
    have h2 := clip_bd r
    have : seq (r :: rs) = seqR r ++ seq rs := by simp [seq]
    rw [this, List.length_append, List.length_cons, Int.natCast_add, Int.natCast_add]
    omega
theorem mem_seqR (r : Run) (t : Int) : t ∈ seqR r ↔ has r t = true := by
  have := clip_bd r
  simp only [seqR, has, List.mem_map, List.mem_range, Bool.and_eq_true, decide_eq_true_eq]
  constructor
  · rintro ⟨i, hi, rfl⟩
    omega
  · intro h
    exact ⟨(t - (clip r).f).toNat, by omega, by omega⟩
theorem seqR_idx (r : Run) (t : Int) (h : has r t = true) : (seqR r).idxOf? t = some (t - (clip r).f).toNat := by
  have hb := clip_bd r
  simp only [has, Bool.and_eq_true, decide_eq_true_eq] at h
  rw [List.idxOf?, List.findIdx?_eq_some_iff_getElem]
  refine ⟨by simp [seqR]; omega, ?_, ?_⟩
  · simp [seqR]; omega
  · intro j hj
    simp [seqR]; omega
theorem seqR_idx_none (r : Run) (t : Int) (h : has r t = false) : (seqR r).idxOf? t = none := by
  rw [List.idxOf?_eq_none_iff]
  intro hm
  rw [mem_seqR, h] at hm
  cases hm
/-- The least index of a track. -/
def ixT (rs : List Run) (t : Int) : Option Nat := (seq rs).idxOf? t
theorem idxOf?_append (a b : List Int) (t : Int) : (a ++ b).idxOf? t = match a.idxOf? t with | some i => some i | none => (b.idxOf? t).map (· + a.length) := by
  simp only [List.idxOf?, List.findIdx?_append]
  cases List.findIdx? (· == t) a <;> simp
theorem ixT_take (rs : List Run) (t : Int) (k : Nat) (h : k < rs.length) : ixT (rs.take (k + 1)) t = match ixT (rs.take k) t with | some i => some i | none => if has rs[k] t = true then some ((t - (clip rs[k]).f).toNat + (seq (rs.take k)).length) else none := by
  unfold ixT
  rw [seq_take rs k h, idxOf?_append]
  cases hx : (seq (rs.take k)).idxOf? t with
  | some i => rfl
  | none =>
    by_cases hh : has rs[k] t = true
    · rw [seqR_idx _ _ hh, if_pos hh]; rfl
    · rw [seqR_idx_none _ _ (by simpa using hh), if_neg hh]; rfl
theorem ixT_prefix (rs : List Run) (t : Int) (k : Nat) {i : Nat} (h : ixT (rs.take k) t = some i) : ixT rs t = some i := by
  have : rs = rs.take k ++ rs.drop k := (List.take_append_drop k rs).symm
  unfold ixT at *
  rw [this]
  unfold seq at *
  rw [List.flatMap_append, idxOf?_append, h]
/-- A track by its index. -/
def atT (rs : List Run) (i : Int) : Option Int := if 0 ≤ i then (seq rs)[i.toNat]? else none
theorem atT_in (rs : List Run) (k : Nat) (h : k < rs.length) (i : Int) (h0 : 0 ≤ i) (h1 : i < (clip rs[k]).c) : atT rs (i + (seq (rs.take k)).length) = some ((clip rs[k]).f + i) := by
  have hb := clip_bd rs[k]
  have hs : seq rs = seq (rs.take k) ++ (seqR rs[k] ++ seq (rs.drop (k + 1))) := by
    conv => lhs; rw [← List.take_append_drop (k + 1) rs]
    unfold seq
    rw [List.flatMap_append, ← List.append_assoc, ← seq, ← seq, ← seq, seq_take rs k h]
  unfold atT
  rw [if_pos (by omega), hs, List.getElem?_append_right (by omega)]
  have : (i + ((seq (rs.take k)).length : Int)).toNat - (seq (rs.take k)).length = i.toNat := by omega
  rw [this, List.getElem?_append_left (by simp [seqR]; omega)]
  rw [seqR, List.getElem?_map, List.getElem?_range (by omega)]
  simp
  omega
theorem atT_none (rs : List Run) (i : Int) (h : ((seq rs).length : Int) ≤ i) : atT rs i = none := by
  unfold atT
  split
  · simp; omega
  · rfl
end Go.Proofs.YtjdmgpefjehkaaaGreatDoor
