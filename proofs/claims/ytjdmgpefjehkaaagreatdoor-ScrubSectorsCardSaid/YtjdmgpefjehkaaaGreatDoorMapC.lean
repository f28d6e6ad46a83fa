/- A map of counts as plain data: what the look-up finds, and how it turns. -/
import Derived.Test.YtjdmgpefjehkaaaGreatDoorMaps
namespace Go.Proofs.YtjdmgpefjehkaaaGreatDoor
open Go.RowKit
open Go.Instr (findNow sameNow)

structure CE where
  n : Int
  c : Int
  b : Nat
def ceE (p : CE) : MapEntry := ⟨.int .i64 p.n, .int .i64 p.c, p.b⟩
def ceFind (n : Int) : List CE → Nat → Option (Nat × Value)
  | [], _ => none
  | p :: r, i => if n = p.n then some (i, .int .i64 p.c) else ceFind n r (i + 1)
theorem find_ce (n : Int) : ∀ (l : List CE) (i : Nat), findNow (.int .i64) (.int .i64 n) (l.map ceE) i = some (ceFind n l i)
  | [], _ => rfl
  | p :: r, i => by
    rw [List.map_cons, findNow, ceFind]
    have hs : sameNow (.int .i64) (.int .i64 n) (ceE p).key = some (n == p.n) := by simp [sameNow, ceE]
    rw [hs]
    by_cases h : n = p.n
    · subst h; simp [ceE]
    · have : (n == p.n) = false := by simpa using h
      rw [this, if_neg h]
      exact find_ce n r (i + 1)
def ceCount (n : Int) : List CE → Int
  | [] => 0
  | p :: r => if n = p.n then p.c else ceCount n r
theorem ceFind_some (n : Int) : ∀ (l : List CE) (i k : Nat) (v : Value), ceFind n l i = some (k, v) → ∃ h : k - i < l.length, i ≤ k ∧ l[k - i].n = n ∧ v = .int .i64 (ceCount n l) ∧ ∀ j (hj : j < l.length), j < k - i → l[j].n ≠ n
  | [], _, _, _, h => by cases h
  | p :: r, i, k, v, h => by
    rw [ceFind] at h
    by_cases hp : n = p.n
    · rw [if_pos hp] at h
      injection h with h
      injection h with h1 h2
      subst h1; subst h2
      exact ⟨by simp, Nat.le_refl _, by simp [hp], by simp [ceCount, hp], fun j hj hjk => by omega⟩
    · rw [if_neg hp] at h
      obtain ⟨h1, h2, h3, h4, h5⟩ := ceFind_some n r (i + 1) k v h
      obtain ⟨d, rfl⟩ : ∃ d, k = i + 1 + d := ⟨k - (i + 1), by omega⟩
      have e1 : i + 1 + d - (i + 1) = d := by omega
      have e2 : i + 1 + d - i = d + 1 := by omega
      simp only [e1] at h1 h3 h5
      simp only [e2]
      refine ⟨by simpa using h1, by omega, by simpa using h3, by rw [ceCount, if_neg hp]; exact h4, fun j hj hjk => ?_⟩
      cases j with
      | zero => simpa using fun h => hp h.symm
      | succ j => simpa using h5 j (by simpa using hj) (by omega)
theorem ceFind_none (n : Int) : ∀ (l : List CE) (i : Nat), ceFind n l i = none → (∀ p ∈ l, p.n ≠ n) ∧ ceCount n l = 0
  | [], _, _ => ⟨by simp, rfl⟩
  | p :: r, i, h => by
    rw [ceFind] at h
    by_cases hp : n = p.n
    · rw [if_pos hp] at h; cases h
    · rw [if_neg hp] at h
      obtain ⟨h1, h2⟩ := ceFind_none n r (i + 1) h
      exact ⟨by simpa using ⟨fun h => hp h.symm, h1⟩, by rw [ceCount, if_neg hp]; exact h2⟩
theorem ceCount_push (m n : Int) (b : Nat) : ∀ l : List CE, (∀ p ∈ l, p.n ≠ n) → ceCount m (l ++ [⟨n, 1, b⟩]) = ceCount m l + if m = n then 1 else 0
  | [], _ => by simp [ceCount]
  | p :: r, h => by
    have ih := ceCount_push m n b r fun q hq => h q (by simp [hq])
    have hp : p.n ≠ n := h p (by simp)
    rw [List.cons_append, ceCount, ceCount, ih]
    by_cases hm : m = p.n
    · rw [if_pos hm, if_pos hm, if_neg (by rw [hm]; exact hp)]; omega
    · rw [if_neg hm, if_neg hm]
theorem ceCount_mod (m n c : Int) : ∀ (l : List CE) (k : Nat) (hk : k < l.length), l[k].n = n → (∀ j (hj : j < l.length), j < k → l[j].n ≠ n) → c = ceCount n l → ceCount m (l.modify k fun e => { e with n := n, c := c + 1 }) = ceCount m l + if m = n then 1 else 0
  | [], _, hk, _, _, _ => by simp at hk
  | p :: r, 0, _, hn, _, hc => by
    have hn : p.n = n := hn
    rw [ceCount, if_pos hn.symm] at hc
    rw [List.modify_zero_cons, ceCount, ceCount]
    simp only
    by_cases hm : m = n
    · rw [if_pos hm, if_pos (by rw [hn]; exact hm), if_pos hm, hc]
    · rw [if_neg hm, if_neg (by rw [hn]; exact hm), if_neg hm]; omega
  | p :: r, k + 1, hk, hn, hj, hc => by
    have hp : p.n ≠ n := hj 0 (by simp) (by omega)
    have ih := ceCount_mod m n c r k (by simpa using hk) (by simpa using hn) (fun j h1 h2 => hj (j + 1) (by simpa using h1) (by omega)) (by rw [ceCount, if_neg (fun h => hp h.symm)] at hc; exact hc)
    rw [List.modify_succ_cons, ceCount, ceCount, ih]
    by_cases hm : m = p.n
    · rw [if_pos hm, if_pos hm, if_neg (by rw [hm]; exact hp)]; omega
    · rw [if_neg hm, if_neg hm]

/-- The map at block r counts l's members. -/
def MapIs (w : World) (r : Nat) (l : List Int) : Prop := ∃ (ps : List CE) (ck : Nat), w.heap[r]? = some (.map (ps.map ceE).toArray ck) ∧ ∀ m, ceCount m ps = (l.count m : Int)
theorem MapIs.new (w : World) : MapIs (w.alloc (.map #[] 0)) w.heap.size [] := ⟨[], 0, heap_alloc_new w _, fun m => by simp [ceCount]⟩
theorem MapIs.kept {w w' : World} {r : Nat} {l : List Int} (h : MapIs w r l) (hk : w'.heap[r]? = w.heap[r]?) : MapIs w' r l := by
  obtain ⟨ps, ck, h1, h2⟩ := h
  exact ⟨ps, ck, hk.trans h1, h2⟩
theorem MapIs.lt {w : World} {r : Nat} {l : List Int} (h : MapIs w r l) : r < w.heap.size := by
  obtain ⟨ps, ck, h1, h2⟩ := h
  exact (Array.getElem?_eq_some_iff.1 h1).1
theorem zero_int (w : World) : (zeroValue 3).run Tryz.prog w = .ok (.int .i64 0) w := by kernel_rfl
theorem MapIs.get {w : World} {r : Nat} {l : List Int} (h : MapIs w r l) (n : Int) : (Instr.lookup 66 (.map (some r)) (.int .i64 n) false).run Tryz.prog w = .ok (.int .i64 (l.count n)) w := by
  obtain ⟨ps, ck, h1, h2⟩ := h
  rw [← h2]
  cases hf : ceFind n ps 0 with
  | none =>
    rw [(ceFind_none n ps 0 hf).2]
    exact run_miss Tryz.underlying66 Tryz.underlying3 h1 n (zero_int w) (by rw [List.toList_toArray, find_ce, hf]) false
  | some q =>
    obtain ⟨k, v⟩ := q
    obtain ⟨_, _, _, hv, _⟩ := ceFind_some n ps 0 k v hf
    subst hv
    exact run_get Tryz.underlying66 Tryz.underlying3 h1 n k _ (by rw [List.toList_toArray, find_ce, hf]) false
theorem MapIs.put {w : World} {r : Nat} {l : List Int} (h : MapIs w r l) (n : Int) : ∃ o, (Instr.mapUpdate 66 (.map (some r)) (.int .i64 n) (.int .i64 ((l.count n : Int) + 1))).run Tryz.prog w = .ok () { w with heap := w.heap.setIfInBounds r o } ∧ MapIs { w with heap := w.heap.setIfInBounds r o } r (l ++ [n]) := by
  obtain ⟨ps, ck, h1, h2⟩ := h
  have hlt : r < w.heap.size := (Array.getElem?_eq_some_iff.1 h1).1
  have hset : ∀ o : Obj, (w.heap.setIfInBounds r o)[r]? = some o := fun o => by rw [Array.getElem?_setIfInBounds, if_pos rfl, if_pos hlt]
  have hcnt : ∀ m, (((l ++ [n]).count m : Nat) : Int) = (l.count m : Int) + if m = n then 1 else 0 := fun m => by
    rw [List.count_append, List.count_singleton]
    by_cases hm : m = n
    · simp [hm]
    · have : ¬ n = m := fun h => hm h.symm
      simp [hm, this]
  cases hf : ceFind n ps 0 with
  | none =>
    obtain ⟨g1, g2⟩ := ceFind_none n ps 0 hf
    rw [← h2, g2]
    refine ⟨_, run_add Tryz.underlying66 Tryz.underlying3 h1 n _ (by rw [List.toList_toArray, find_ce, hf]), ps ++ [⟨n, 1, ck⟩], ck + 1, ?_, fun m => ?_⟩
    · show (w.heap.setIfInBounds r _)[r]? = _
      rw [hset]
      simp [ceE]
    · rw [ceCount_push m n ck ps g1, h2, hcnt]
  | some q =>
    obtain ⟨k, v⟩ := q
    obtain ⟨hk, _, hn, hv, hj⟩ := ceFind_some n ps 0 k v hf
    subst hv
    simp only [Nat.sub_zero] at hk hn hj
    refine ⟨_, run_upd Tryz.underlying66 Tryz.underlying3 h1 n _ k _ (by rw [List.toList_toArray, find_ce, hf]) (by simp [hk, ceE, hn]), ps.modify k (fun e => { e with n := n, c := (l.count n : Int) + 1 }), ck, ?_, fun m => ?_⟩
    · show (w.heap.setIfInBounds r _)[r]? = _
      rw [hset]
      congr 2
      apply Array.ext_getElem?
      intro i
      simp only [Array.getElem?_modify, List.getElem?_toArray, List.getElem?_map, List.getElem?_modify]
      by_cases hi : k = i
      · subst hi; simp [hk, ceE]
      · simp [hi]
    · rw [ceCount_mod m n (l.count n) ps k hk hn hj (h2 n).symm, h2, hcnt]
end Go.Proofs.YtjdmgpefjehkaaaGreatDoor
