/- contents.Refs: the references of the labels in use, sorted. -/
import Derived.Test.YtjdmgpefjehkaaaGreatDoorStrs
import Derived.Test.YtjdmgpefjehkaaaGreatDoorLabEq
import Derived.Test.YtjdmgpefjehkaaaGreatDoorSort
namespace Go.Proofs.YtjdmgpefjehkaaaGreatDoor
open Go.RowKit Go.Sort
attribute [local go_sem] Instr.field asAgg
set_option maxRecDepth 100000

instance : Inhabited Ref := ⟨⟨0, 0⟩⟩
theorem refCells_len (r : Ref) : (refCells r).length = 2 := rfl
theorem holds_refs {w : World} {blk : Nat} {l : List Ref} (h : ∀ j v, (l.flatMap refCells)[j]? = some v → w.cell? ⟨blk, j, none⟩ = some v ∧ w.frozen? ⟨blk, j, none⟩ = false) : HoldsK refCells 2 w blk 0 l.toArray := by
  intro t ht
  have ht : t < l.length * 2 := by simpa using ht
  rw [get_flatK _ _ _ _ (by simpa using ht)]
  have hq : t / 2 < l.length := by omega
  have hf := flatMap_at refCells 2 refCells_len l (t / 2) (t % 2) hq (Nat.mod_lt _ (by decide))
  rw [show t / 2 * 2 + t % 2 = t by omega] at hf
  have hv : (refCells l[t / 2])[t % 2]? = some ((refCells l.toArray[t / 2]!)[t % 2]!) := by
    have : t % 2 < (refCells l[t / 2]).length := Nat.mod_lt _ (by decide)
    rw [getElem!_pos l.toArray (t / 2) (by simpa using hq)]
    show _ = some (refCells l[t / 2])[t % 2]!
    rw [getElem!_pos (refCells l[t / 2]) (t % 2) this, List.getElem?_eq_getElem this]
  simpa using h t _ (hf.trans hv)
theorem refs_holds {w : World} {blk : Nat} {d : Array Ref} (h : HoldsK refCells 2 w blk 0 d) : Sl w (some ⟨blk, 0, none⟩) (d.toList.flatMap refCells) := by
  intro _
  refine ⟨blk, 0, rfl, fun j v hv => ?_⟩
  have hlt : j < d.toList.length * 2 := by
    have := (List.getElem?_eq_some_iff.1 hv).1
    rwa [flatMap_len refCells 2 refCells_len] at this
  have hq : j / 2 < d.toList.length := by omega
  have hf := flatMap_at refCells 2 refCells_len d.toList (j / 2) (j % 2) hq (Nat.mod_lt _ (by decide))
  rw [show j / 2 * 2 + j % 2 = j by omega, hv] at hf
  have hc := (h.cell (i := j / 2) (c := j % 2) (by simpa using hq) (Nat.mod_lt _ (by decide))).1
  rw [show 0 + j / 2 * 2 + j % 2 = 0 + j by omega] at hc
  rw [hc]
  have hq' : j / 2 < d.size := by simpa using hq
  have : j % 2 < (refCells d[j / 2]).length := Nat.mod_lt _ (by decide)
  rw [getElem!_pos d (j / 2) hq', getElem!_pos (refCells d[j / 2]) (j % 2) this]
  have hf2 : some v = (refCells d[j / 2])[j % 2]? := hf
  rw [List.getElem?_eq_getElem this] at hf2
  exact hf2.symm
theorem own_holds {w : World} {base : Nat} {e : TypeId} {g n cap : Nat} {l : List Ref} (h : w.ownsRow base e 2 (.slice (some ⟨g, 0, none⟩) n cap) n (l.flatMap refCells)) : HoldsK refCells 2 w g 0 l.toArray ∧ base ≤ g ∧ g < w.heap.size := by
  rcases h.2 with ⟨e0, _⟩ | ⟨g', cap', cur, e0, hb, hg, hn, hm, hs, ht⟩
  · cases e0
  · injection e0 with e1 _ e3
    injection e1 with e1
    injection e1 with e1
    subst e1; subst e3
    refine ⟨holds_refs fun j v hv => ?_, hb, (Array.getElem?_eq_some_iff.1 hg).1⟩
    refine ⟨?_, by simp [World.frozen?, hg]⟩
    rw [← ht, List.getElem?_take] at hv
    split at hv
    · rw [Array.getElem?_toList] at hv
      simp only [World.cell?, hg]
      simp [hv]
    · cases hv
theorem Ext.sorted {w0 w : World} (h : Ext w0 w) {blk : Nat} (hb : w0.heap.size ≤ blk) (n : Nat) (d : Array Ref) (os : Array Obj) : Ext w0 (sortWorldK refCells 2 w blk 0 n d os) := by
  refine ⟨h.os, h.tape, h.output, ?_, fun i hi => ?_⟩
  · have := h.size
    simp [sortWorldK, Sort.grow, putRowK]; omega
  · have hs := h.size
    show ((putRowK refCells 2 (Sort.ahead w n) blk 0 d).heap ++ os)[i]? = _
    rw [Array.getElem?_append_left (by simp [putRowK]; omega)]
    show ((w.heap.modify blk _))[i]? = _
    rw [Array.getElem?_modify, if_neg (by omega)]
    exact h.block i hi

/-! ### the order of references -/
def ltR (a b : Ref) : Bool := ltOf cmpR a b
theorem ltR_iff (a b : Ref) : ltR a b = decide (a.id < b.id ∨ a.id = b.id ∧ a.unit < b.unit) := by
  unfold ltR ltOf cmpR cmpI
  rcases Int.lt_trichotomy a.id b.id with h | h | h
  · rw [if_pos h]; simp [h]
  · rw [h]
    rcases Int.lt_trichotomy a.unit b.unit with h2 | h2 | h2
    · simp [h2]
    · simp [h2]
    · have : ¬ a.unit < b.unit := by omega
      simp [h2, this]
  · have h3 : ¬ a.id < b.id := by omega
    have h4 : ¬ a.id = b.id := by omega
    simp [h, h3, h4]
theorem swoR : SWO (ltOf cmpR) where
  irrefl x := by rw [show ltOf cmpR x x = ltR x x from rfl, ltR_iff]; simp
  trans x y z h1 h2 := by
    rw [show ltOf cmpR x y = ltR x y from rfl, ltR_iff] at h1
    rw [show ltOf cmpR y z = ltR y z from rfl, ltR_iff] at h2
    rw [show ltOf cmpR x z = ltR x z from rfl, ltR_iff]
    simp only [decide_eq_true_eq] at *; omega
  ntrans x y z h1 h2 := by
    rw [show ltOf cmpR x y = ltR x y from rfl, ltR_iff] at h1
    rw [show ltOf cmpR y z = ltR y z from rfl, ltR_iff] at h2
    rw [show ltOf cmpR x z = ltR x z from rfl, ltR_iff]
    simp only [decide_eq_false_iff_not] at *; omega
theorem totR (x y : Ref) (h1 : ltOf cmpR x y = false) (h2 : ltOf cmpR y x = false) : x = y := by
  rw [show ltOf cmpR x y = ltR x y from rfl, ltR_iff] at h1
  rw [show ltOf cmpR y x = ltR y x from rfl, ltR_iff] at h2
  simp only [decide_eq_false_iff_not] at h1 h2
  obtain ⟨a, b⟩ := x
  obtain ⟨c, d⟩ := y
  simp only [Ref.mk.injEq]
  simp only at h1 h2
  omega
def sortR (l : List Ref) : List Ref := l.mergeSort fun x y => !(ltOf cmpR) y x
theorem sortR_nil : sortR [] = [] := List.mergeSort_nil
theorem sortR_len (l : List Ref) : (sortR l).length = l.length := (List.mergeSort_perm l _).length_eq
theorem sortR_mem {l : List Ref} {r : Ref} : r ∈ sortR l ↔ r ∈ l := (List.mergeSort_perm l _).mem_iff

theorem p_cmpLays (blk off size : Nat) (w : World) : CmpLays Tryz.prog 45 #[] refCells 2 cmpR blk off size w := fun _ _ _ _ x y =>
  (p_cmpR x y _).mono fun _ _ ⟨he, hw⟩ => ⟨he, 1, _, hw.trans (by rw [alloc_eq_grow, alloc_eq_grow, alloc_eq_grow, grow_grow, grow_grow]; rfl)⟩
theorem p_sort (w0 : World) (l : List Ref) (hl : l.length < 4611686018427387904) (v : Value) (w : World) (h : w.ownsRow w0.heap.size 40 2 v l.length (l.flatMap refCells)) (he : Ext w0 w) :
    Calls Tryz.prog 44 #[v, .func (.func 45) #[] #[]] w fun e w' => e = .returned (.tuple #[]) ∧ Sl w' (match v with | .slice A _ _ => A | _ => none) ((sortR l).flatMap refCells) ∧ Ext w0 w' ∧ w.heap.size ≤ w'.heap.size ∧ ∀ k, k < w.heap.size → some k ≠ v.ownBlock → w'.heap[k]? = w.heap[k]? := by
  rcases h.2 with ⟨rfl, hn⟩ | ⟨g, cap, cur, rfl, _⟩
  · have hl0 : l = [] := List.eq_nil_of_length_eq_zero (by have := h.1; rw [hn, flatMap_len refCells 2 refCells_len] at this; omega)
    subst hl0
    refine (AnyF.slices_SortFunc_none Tryz.sortRef none 0 _ w).mono ?_
    rintro e w' ⟨rfl, rfl⟩
    exact ⟨rfl, by rw [sortR_nil]; exact Sl.nil _ _, he, Nat.le_refl _, fun _ _ _ => rfl⟩
  · obtain ⟨hH, hb, hlt⟩ := own_holds h
    have eg : ∀ args w, (callFunc 45 args).run Tryz.prog w = .ok (.enter 45 args) w := enters_of Tryz.func45 (by kernel_rfl) rfl
    have hcon := AnyQ.slices_SortFunc_total Tryz.sortRef 2 Tryz.isAgg40 Tryz.sizeOf40 refCells (fun _ => rfl) (fun x v hv => by simp [refCells] at hv; rcases hv with rfl | rfl <;> rfl) cmpR swoR 45 #[] g 0 cap l.toArray w eg (p_cmpLays g 0 _ w) hH hlt (by simpa using hl) totR
    refine hcon.mono ?_
    rintro e w' ⟨rfl, n, os, rfl⟩
    refine ⟨rfl, ?_, he.sorted hb n _ os, by simp [sortWorldK, Sort.grow, putRowK], fun k hk hne => ?_⟩
    · have hh := holdsK_grow refCells 2 _ os g 0 _ (by simpa [putRowK] using hlt) (holdsK_putRowK refCells 2 (Sort.ahead w n) g 0 l.toArray (sortR l).toArray (holdsK_ahead refCells 2 w n g 0 _ hH) (by simp [sortR_len]))
      exact refs_holds hh
    · show ((putRowK refCells 2 (Sort.ahead w n) g 0 _).heap ++ os)[k]? = _
      rw [Array.getElem?_append_left (by simpa [putRowK] using hk)]
      show ((w.heap.modify g _))[k]? = _
      rw [Array.getElem?_modify, if_neg (by intro hh; exact hne (by simp [Value.ownBlock, hh]))]
end Go.Proofs.YtjdmgpefjehkaaaGreatDoor
