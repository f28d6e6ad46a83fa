/- append of a list of elements, from whatever slice it is read. No program in sight. -/
import Derived.Test.YtjdmgpefjehkaaaGreatDoorBase
namespace Go.Proofs.YtjdmgpefjehkaaaGreatDoor
open Go.RowKit

theorem run_append_nil_any {P : Program} {w : World} (base : Nat) (t ty e : TypeId) (i : TypeInfo) (size : Nat) (ht : P.underlying t = some (.slice e)) (hi : P.info? e = some i)
    (v : Value) (n : Nat) (xs : List Value) (hown : w.ownsRow base e size v n xs) (c : Nat) :
    (Builtin.append_ #[t, t] ty #[v, .slice none 0 c]).run P w = .ok v w := by
  rcases hown.2 with ⟨rfl, rfl⟩ | ⟨g, cap, cur, rfl, _, _, hnc, _⟩
  · simp [Builtin.append_, run_underlying ht, sizeOf, typeInfo, hi, Builtin.lenOf, Builtin.firstCells]
  · simp [Builtin.append_, run_underlying ht, sizeOf, typeInfo, hi, Builtin.lenOf, Builtin.firstCells, hnc, storeCells]

theorem run_app_src {P : Program} {W : World} (base : Nat) (t ty e : TypeId) (z : Value) (size bytes : Nat)
    (ht : P.underlying t = some (.slice e)) (hinfo : (P.info? e).map (fun i => (i.zero, i.size, i.bytes)) = some (some z, size, bytes)) (hz : z.cells.size = size) (hsz : 0 < size) (hb0 : 0 < bytes)
    (v : Value) (n : Nat) (xs : List Value) (B : Option Addr) (m c : Nat) (y : List Value) (hy : y.length = m * size) (h1 : ∀ u ∈ y, u.oneCell' = true) (hB : Sl W B y)
    (HO : W.ownsRow base e size v n xs) (hbase : base ≤ W.heap.size) (hl : ((n : Int) + m) * bytes ≤ 140737488355328) :
    ∃ v1 w1, (Builtin.append_ #[t, t] ty #[v, .slice B m c]).run P W = .ok v1 w1 ∧ w1.ownsRow base e size v1 (n + m) (xs ++ y) ∧ W.grownBy w1 v.ownBlock ∧ (v1.ownBlock = v.ownBlock ∨ v1.ownBlock = some W.heap.size) := by
  obtain ⟨i0, hi, hzz⟩ := Option.map_eq_some_iff.1 hinfo
  simp only [Prod.mk.injEq] at hzz
  obtain ⟨hz0, hz1, hz2⟩ := hzz
  have hl' : (n + m) * bytes ≤ 140737488355328 := by
    have : ((n + m : Nat) : Int) * (bytes : Int) ≤ 140737488355328 := by simpa using hl
    rw [← Int.natCast_mul] at this
    omega
  have hlen : n + m ≤ 140737488355328 := Nat.le_trans (Nat.le_mul_of_pos_right _ hb0) hl'
  have hadd : ∀ b o j : Nat, (⟨b, o, none⟩ : Addr).add j = ⟨b, o + j, none⟩ := fun b o j => by unfold Addr.add; split <;> simp_all
  rcases Nat.eq_zero_or_pos m with h0 | h0
  · subst h0
    obtain rfl : y = [] := List.eq_nil_of_length_eq_zero (by simpa using hy)
    cases B with
    | none => exact ⟨v, W, run_append_nil_any base t ty e i0 size ht hi v n xs HO c, by simpa using HO, ⟨rfl, rfl, rfl, Nat.le_refl _, fun _ _ _ => rfl⟩, .inl rfl⟩
    | some ad =>
      obtain ⟨v', w', hr, h2, h3, _, h5⟩ := run_append_own_at (P := P) W base t ty e i0 z size bytes ht hi hz0 hz1 hz2 hz hsz v n xs HO ad 0 c [] (by simp) (by simp) (by simp) (by simp only [maxLen]; omega) hl' hbase
      exact ⟨v', w', hr, h2, h3, h5⟩
  · have hne : y ≠ [] := by
      intro hn
      rw [hn] at hy
      have : 1 * 1 ≤ m * size := Nat.mul_le_mul h0 hsz
      simp at hy
      omega
    obtain ⟨b, o, rfl, hc⟩ := hB hne
    obtain ⟨v', w', hr, h2, h3, _, h5⟩ := run_append_own_at (P := P) W base t ty e i0 z size bytes ht hi hz0 hz1 hz2 hz hsz v n xs HO ⟨b, o, none⟩ m c y hy (fun j u hj => by rw [hadd]; exact hc j u hj) h1 (by simp only [maxLen]; omega) hl' hbase
    exact ⟨v', w', hr, h2, h3, h5⟩

section
variable {P : Program} {ops : Array Oper} {rest : List Oper} {o : Oper} {a : Act} {Q : Exit → Act → World → Prop}
theorem app_src {W : World} (base : Nat) (hgd : o.guard = none) (s x : Operand) (t e : TypeId) (z : Value) (size bytes : Nat)
    (ho : o.op = .call { callee := .builtin .append, args := #[s, x], argTypes := #[t, t] })
    (ht : P.underlying t = some (.slice e)) (hinfo : (P.info? e).map (fun i => (i.zero, i.size, i.bytes)) = some (some z, size, bytes)) (hz : z.cells.size = size) (hsz : 0 < size) (hb0 : 0 < bytes)
    (v : Value) (n : Nat) (xs : List Value) (B : Option Addr) (m c : Nat) (y : List Value) (hs : a.eval s = v) (hx : a.eval x = .slice B m c) (hy : y.length = m * size) (h1 : ∀ u ∈ y, u.oneCell' = true) (hB : Sl W B y)
    (HO : W.ownsRow base e size v n xs) (hbase : base ≤ W.heap.size) (hl : ((n : Int) + m) * bytes ≤ 140737488355328)
    (h : ∀ v1 w1, w1.ownsRow base e size v1 (n + m) (xs ++ y) → W.grownBy w1 v.ownBlock → (v1.ownBlock = v.ownBlock ∨ v1.ownBlock = some W.heap.size) → wpList P ops Q rest (a.put o.dst v1) w1) :
    wpList P ops Q (o :: rest) a W := by
  refine wpList_plain hgd fun K hK => ?_
  obtain ⟨v', w', hr, h2, h3, h5⟩ := run_app_src (P := P) (W := W) base t o.type e z size bytes ht hinfo hz hsz hb0 v n xs B m c y hy h1 hB HO hbase hl
  unfold Oper.wp execOp
  simp only [ho, resolve, invoke, builtin, Sem.run_bind, Sem.run_pure, Result.andThen_ok, List.map_toArray, List.map_cons, List.map_nil, hs, hx, hr]
  exact hK _ _ (h v' w' h2 h3 h5)
/-- The same as a step of a region that draws its order. -/
theorem step_src {K : Act → World → Prop} {E : Prop} {W : World} (base : Nat) (hgd : o.guard = none) (s x : Operand) (t e : TypeId) (z : Value) (size bytes : Nat)
    (ho : o.op = .call { callee := .builtin .append, args := #[s, x], argTypes := #[t, t] })
    (ht : P.underlying t = some (.slice e)) (hinfo : (P.info? e).map (fun i => (i.zero, i.size, i.bytes)) = some (some z, size, bytes)) (hz : z.cells.size = size) (hsz : 0 < size) (hb0 : 0 < bytes)
    (v : Value) (n : Nat) (xs : List Value) (B : Option Addr) (m c : Nat) (y : List Value) (hs : a.eval s = v) (hx : a.eval x = .slice B m c) (hy : y.length = m * size) (h1 : ∀ u ∈ y, u.oneCell' = true) (hB : Sl W B y)
    (HO : W.ownsRow base e size v n xs) (hbase : base ≤ W.heap.size) (hl : ((n : Int) + m) * bytes ≤ 140737488355328)
    (h : ∀ v1 w1, w1.ownsRow base e size v1 (n + m) (xs ++ y) → W.grownBy w1 v.ownBlock → (v1.ownBlock = v.ownBlock ∨ v1.ownBlock = some W.heap.size) → K (a.put o.dst v1) w1) :
    if Region.wanted o (yielded ops a.tmps) = true then Oper.wp P o a W K Q else E := by
  have hw : Region.wanted o (yielded ops a.tmps) = true := by simp [Region.wanted, hgd]
  rw [if_pos hw]
  obtain ⟨v', w', hr, h2, h3, h5⟩ := run_app_src (P := P) (W := W) base t o.type e z size bytes ht hinfo hz hsz hb0 v n xs B m c y hy h1 hB HO hbase hl
  unfold Oper.wp execOp
  simp only [ho, resolve, invoke, builtin, Sem.run_bind, Sem.run_pure, Result.andThen_ok, List.map_toArray, List.map_cons, List.map_nil, hs, hx, hr]
  exact h v' w' h2 h3 h5
end
section
variable {P : Program} {ops : Array Oper} {o : Oper} {a : Act} {Q : Exit → Act → World → Prop}
/-- The same, told of a world in which the call's own blocks begin. -/
theorem step_src2 {K : Act → World → Prop} {E : Prop} {W : World} (W0 : World) (hgd : o.guard = none) (s x : Operand) (t e : TypeId) (z : Value) (size bytes : Nat)
    (ho : o.op = .call { callee := .builtin .append, args := #[s, x], argTypes := #[t, t] })
    (ht : P.underlying t = some (.slice e)) (hinfo : (P.info? e).map (fun i => (i.zero, i.size, i.bytes)) = some (some z, size, bytes)) (hz : z.cells.size = size) (hsz : 0 < size) (hb0 : 0 < bytes)
    (v : Value) (n : Nat) (xs : List Value) (B : Option Addr) (m c : Nat) (y : List Value) (hs : a.eval s = v) (hx : a.eval x = .slice B m c) (hy : y.length = m * size) (h1 : ∀ u ∈ y, u.oneCell' = true) (hB : Sl W B y)
    (HO : W.ownsRow W0.heap.size e size v n xs) (hext : Ext W0 W) (hl : ((n : Int) + m) * bytes ≤ 140737488355328)
    (h : ∀ v1 w1, w1.ownsRow W0.heap.size e size v1 (n + m) (xs ++ y) → Ext W0 w1 → (∀ (g : Nat) (tt : TypeId) (cs : List Value), Blk W g tt cs → some g ≠ v.ownBlock → Blk w1 g tt cs) → (v1.ownBlock = v.ownBlock ∨ v1.ownBlock = some W.heap.size) → K (a.put o.dst v1) w1) :
    if Region.wanted o (yielded ops a.tmps) = true then Oper.wp P o a W K Q else E :=
  step_src W0.heap.size hgd s x t e z size bytes ho ht hinfo hz hsz hb0 v n xs B m c y hs hx hy h1 hB HO hext.le hl fun v1 w1 ho1 hg hat => h v1 w1 ho1 (hext.own HO hg) (fun _ _ _ hb hne => hb.grown hg hne) hat
end
theorem runs_one (l : List Run) : ∀ u ∈ l.flatMap runCells, u.oneCell' = true := by
  intro u hu
  obtain ⟨r, _, h⟩ := List.mem_flatMap.1 hu
  simp [runCells] at h
  rcases h with rfl | rfl <;> rfl
theorem runs_len (l : List Run) : (l.flatMap runCells).length = l.length * 2 := flatMap_len runCells 2 runCells_len l
end Go.Proofs.YtjdmgpefjehkaaaGreatDoor
