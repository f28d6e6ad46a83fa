/- scrub.Table: what it tells, and words for its walk. -/
import Derived.Test.YtjdmgpefjehkaaaGreatDoorRefsB
import Derived.Test.YtjdmgpefjehkaaaGreatDoorMapC
import Derived.Test.YtjdmgpefjehkaaaGreatDoorOwner
import Derived.Test.YtjdmgpefjehkaaaGreatDoorRLines
namespace Go.Proofs.YtjdmgpefjehkaaaGreatDoor
open Go.RowKit
attribute [local go_sem] Instr.field asAgg
set_option maxRecDepth 100000

def cntU (ls : List Label) (a : Int) (n : Nat) : Int := ((List.range n).countP fun i : Nat => (ownerT ls (a + i)).isSome : Nat)
theorem cntU_succ (ls : List Label) (a : Int) (n : Nat) : cntU ls a (n + 1) = cntU ls a n + if (ownerT ls (a + n)).isSome then 1 else 0 := by
  unfold cntU
  rw [List.range_succ, List.countP_append, List.countP_singleton]
  split <;> simp
theorem cntU_le (ls : List Label) (a : Int) (n : Nat) : 0 ≤ cntU ls a n ∧ cntU ls a n ≤ n := by
  unfold cntU
  have := List.countP_le_length (p := fun i : Nat => (ownerT ls (a + i)).isSome) (l := List.range n)
  rw [List.length_range] at this
  omega
def spanN (t : Int) : Nat := (trk t - tt t).toNat
def tentS (ls : List Label) : List Ref := (refsS ls).filter fun r => r.unit != 0
def allT (ls : List Label) : List Int := ls.flatMap fun l => seq l.ext
def sharedS (ls : List Label) : List Int := ((List.range 128).filter fun i : Nat => 1 < (allT ls).count (i : Int)).map fun i : Nat => (i : Int)
def scrubS (t : Int) (ls : List Label) : Scrub := ⟨spanN t - cntU ls (tt t) (spanN t), cntU ls (tt t) (spanN t), tentS ls, sharedS ls, []⟩

theorem allT_snoc (ls : List Label) (k : Nat) (h : k < ls.length) : allT (ls.take (k + 1)) = allT (ls.take k) ++ seq ls[k].ext := by
  unfold allT; rw [List.take_succ_eq_append_getElem h, List.flatMap_append]; simp
theorem allT_len : ∀ ls : List Label, (∀ l ∈ ls, (l.ext.length : Int) ≤ 1000000) → ((allT ls).length : Int) ≤ 128000000 * ls.length
  | [], _ => by simp [allT]
  | l :: r, h => by
    have ih := allT_len r fun x hx => h x (by simp [hx])
    have h1 := h l (by simp)
    have h2 := seq_le l.ext
    have : allT (l :: r) = seq l.ext ++ allT r := by simp [allT]
    rw [this, List.length_append, List.length_cons]
    omega
theorem seq_one (r : Run) : seq [r] = seqR r := by simp [seq]
theorem atT_get (rs : List Run) (m : Nat) (h : m < (seq rs).length) : atT rs m = some (seq rs)[m] := by
  unfold atT
  rw [if_pos (by omega), Int.toNat_natCast, List.getElem?_eq_getElem h]
theorem take_one {α : Type} (l : List α) (m : Nat) (h : m < l.length) : l.take (m + 1) = l.take m ++ [l[m]] := List.take_succ_eq_append_getElem h
theorem run_here {w : World} {g : Nat} {r : Run} (hr : r.ok) (hB : Blk w g 68 [.int .i64 r.f, .int .i64 r.c]) : Runs w (some ⟨g, 0, none⟩) [r] :=
  ⟨fun _ => ⟨g, 0, rfl, fun j v hv => by rw [Nat.zero_add]; exact hB.cell j hv⟩, by simpa using hr, by simp⟩
def shK (L : List Int) (k : Nat) : List Int := ((List.range k).filter fun i : Nat => 1 < L.count (i : Int)).map fun i : Nat => (i : Int)
theorem shK_yes (L : List Int) (k : Nat) (h : 1 < L.count (k : Int)) : shK L (k + 1) = shK L k ++ [(k : Int)] := by
  unfold shK; rw [List.range_succ, List.filter_append, List.map_append, List.filter_cons_of_pos (by simpa using h), List.filter_nil]; rfl
theorem shK_no (L : List Int) (k : Nat) (h : ¬ 1 < L.count (k : Int)) : shK L (k + 1) = shK L k := by
  unfold shK; rw [List.range_succ, List.filter_append, List.map_append, List.filter_cons_of_neg (by simpa using h), List.filter_nil]; exact List.append_nil _
theorem shK_len (L : List Int) (k : Nat) : (shK L k).length ≤ k := by
  unfold shK
  rw [List.length_map]
  exact Nat.le_trans (List.length_filter_le _ _) (by simp)
/-- Every block of w but g stays. -/
structure Kp (g : Nat) (w w' : World) : Prop where
  size : w.heap.size ≤ w'.heap.size
  block : ∀ k, k < w.heap.size → k ≠ g → w'.heap[k]? = w.heap[k]?
theorem Kp.refl (g : Nat) (w : World) : Kp g w w := ⟨Nat.le_refl _, fun _ _ _ => rfl⟩
theorem Kp.ext {g : Nat} {w a b : World} (h : Kp g w a) (k : Ext a b) : Kp g w b := ⟨Nat.le_trans h.size k.size, fun i hi hg => (k.block i (by have := h.size; omega)).trans (h.block i hi hg)⟩
theorem Kp.set {g : Nat} {w a : World} (h : Kp g w a) (i : Nat) (v : Value) : Kp g w (a.setCell ⟨g, i, none⟩ v) :=
  ⟨by simpa [World.setCell] using h.size, fun k hk hg => (Below.heap_setCell a _ _ k hg).trans (h.block k hk hg)⟩
theorem Kp.put {g : Nat} {w a : World} (h : Kp g w a) (o : Obj) : Kp g w { a with heap := a.heap.setIfInBounds g o } :=
  ⟨by simpa using h.size, fun k hk hg => by
    show (a.heap.setIfInBounds g o)[k]? = _
    rw [Array.getElem?_setIfInBounds, if_neg (fun e => hg e.symm)]
    exact h.block k hk hg⟩
theorem Kp.grown {g : Nat} {w a b : World} (h : Kp g w a) {v : Value} (hg : a.grownBy b v.ownBlock) (hv : ∀ k, v.ownBlock = some k → w.heap.size ≤ k) : Kp g w b :=
  ⟨Nat.le_trans h.size hg.size, fun k hk hne => (hg.block k (by have := h.size; omega) (fun e => by have := hv k e.symm; omega)).trans (h.block k hk hne)⟩
theorem Kp.blk {g k : Nat} {w w' : World} {t : TypeId} {cs : List Value} (h : Kp g w w') (hB : Blk w k t cs) (hk : k ≠ g) : Blk w' k t cs := (h.block k hB.lt hk).trans hB
theorem Kp.row {g : Nat} {w w' : World} {base n size : Nat} {e : TypeId} {v : Value} {xs : List Value} (h : Kp g w w') (ho : w.ownsRow base e size v n xs) (hv : some g ≠ v.ownBlock) : w'.ownsRow base e size v n xs := by
  rcases ho.2 with h1 | ⟨q, cap, cur, rfl, h2, hh, h3⟩
  · exact ⟨ho.1, .inl h1⟩
  · exact ⟨ho.1, .inr ⟨q, cap, cur, rfl, h2, (h.block q (Array.getElem?_eq_some_iff.1 hh).1 (by intro e; subst e; exact hv rfl)).trans hh, h3⟩⟩
theorem Kp.refs {g : Nat} {w w' : World} {A : Option Addr} {l : List Ref} (h : Kp g w w') (hR : Refs w A l) (hA : ∀ a, A = some a → a.block ≠ g) : Refs w' A l := by
  refine ⟨fun hn => ?_, hR.ok, hR.len⟩
  obtain ⟨b, o, e, hc⟩ := hR.sl hn
  refine ⟨b, o, e, fun j v hv => ?_⟩
  have hcell := hc j v hv
  obtain ⟨c, e', fr, hh, hj⟩ := Sort.cells_of_cell? hcell
  have := h.block b (Array.getElem?_eq_some_iff.1 hh).1 (hA _ e)
  unfold World.cell? at hcell ⊢
  rw [this]
  exact hcell
theorem Ext.putO {a w : World} (h : Ext a w) {g : Nat} (hg : a.heap.size ≤ g) (o : Obj) : Ext a { w with heap := w.heap.setIfInBounds g o } :=
  ⟨h.os, h.tape, h.output, by have := h.size; show a.heap.size ≤ (w.heap.setIfInBounds g o).size; simpa using this, fun i hi => by
    show (w.heap.setIfInBounds g o)[i]? = _
    rw [Array.getElem?_setIfInBounds, if_neg (by omega)]
    exact h.block i hi⟩
theorem Blk.putO {w : World} {k : Nat} {t : TypeId} {cs : List Value} (h : Blk w k t cs) {g : Nat} (hg : k ≠ g) (o : Obj) : Blk { w with heap := w.heap.setIfInBounds g o } k t cs := by
  unfold Blk at h ⊢
  show (w.heap.setIfInBounds g o)[k]? = _
  rw [Array.getElem?_setIfInBounds, if_neg (fun e => hg e.symm)]
  exact h
end Go.Proofs.YtjdmgpefjehkaaaGreatDoor
