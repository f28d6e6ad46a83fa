/- The references of a table by insertion, as the reference does it, are the sorted ones; owners and counts. No walk. -/
import Derived.Test.YtjdmgpefjehkaaaGreatDoorTableP
namespace Go.Proofs.YtjdmgpefjehkaaaGreatDoor
open Go.RowKit

def posR (x : Ref) : List Ref → Nat
  | [] => 0
  | y :: r => if ltR x y = true then 0 else posR x r + 1
theorem posR_cons (x y : Ref) (r : List Ref) : posR x (y :: r) = if ltR x y = true then 0 else posR x r + 1 := rfl
theorem posR_le (x : Ref) : ∀ l : List Ref, posR x l ≤ l.length
  | [] => Nat.le_refl _
  | y :: r => by
    have := posR_le x r
    unfold posR
    split
    · omega
    · simp; omega
/-- As long as the elements so far are not greater, the place is still ahead. -/
theorem posR_ahead (x : Ref) : ∀ (l : List Ref) (k : Nat), k ≤ l.length → (∀ j (h : j < l.length), j < k → ltR x l[j] = false) → (∀ h : k < l.length, ltR x l[k] = true) → posR x l = k
  | [], k, hk, _, _ => by
    have : k = 0 := by simpa using hk
    subst this; rfl
  | y :: r, 0, _, _, h => by
    have := h (by simp)
    simp only [List.getElem_cons_zero] at this
    unfold posR
    rw [if_pos this]
  | y :: r, k + 1, hk, hn, h => by
    have h0 := hn 0 (by simp) (by omega)
    simp only [List.getElem_cons_zero] at h0
    have ih := posR_ahead x r k (by simpa using hk) (fun j hj hjk => by have := hn (j + 1) (by simpa using hj) (by omega); simpa using this) (fun hh => by have := h (by simpa using hh); simpa using this)
    unfold posR
    rw [if_neg (by rw [h0]; decide), ih]
def insR (x : Ref) (l : List Ref) : List Ref := l.take (posR x l) ++ [x] ++ l.drop (posR x l)
theorem insR_len (x : Ref) (l : List Ref) : (insR x l).length = l.length + 1 := by
  have := posR_le x l
  unfold insR
  simp
  omega
theorem insR_cons (x y : Ref) (r : List Ref) : insR x (y :: r) = if ltR x y = true then x :: y :: r else y :: insR x r := by
  unfold insR
  rw [posR_cons]
  split
  · rfl
  · simp
theorem insR_perm (x : Ref) (l : List Ref) : List.Perm (insR x l) (x :: l) := by
  unfold insR
  have h : List.Perm (l.take (posR x l) ++ [x] ++ l.drop (posR x l)) ([x] ++ l.take (posR x l) ++ l.drop (posR x l)) := List.Perm.append_right _ List.perm_append_comm
  refine h.trans ?_
  rw [List.append_assoc, List.take_append_drop]
  exact List.Perm.refl _
def leR (x y : Ref) : Bool := !ltR y x
theorem leR_tr (x y z : Ref) (h1 : leR x y = true) (h2 : leR y z = true) : leR x z = true := by
  unfold leR at *
  rw [ltR_iff] at *
  simp only [Bool.not_eq_true', decide_eq_false_iff_not] at *
  omega
theorem leR_lt {x y : Ref} (h : ltR x y = true) : leR x y = true := by
  unfold leR
  rw [ltR_iff] at *
  simp only [Bool.not_eq_true', decide_eq_false_iff_not, decide_eq_true_eq] at *
  omega
theorem insR_sorted (x : Ref) : ∀ l : List Ref, l.Pairwise (fun a b => leR a b = true) → (insR x l).Pairwise (fun a b => leR a b = true)
  | [], _ => by simp [insR]
  | y :: r, h => by
    rw [insR_cons]
    rw [List.pairwise_cons] at h
    split
    · rename_i hlt
      rw [List.pairwise_cons, List.pairwise_cons]
      refine ⟨fun z hz => ?_, h⟩
      rcases List.mem_cons.1 hz with rfl | hz
      · exact leR_lt hlt
      · exact leR_tr _ _ _ (leR_lt hlt) (h.1 z hz)
    · rename_i hlt
      rw [List.pairwise_cons]
      refine ⟨fun z hz => ?_, insR_sorted x r h.2⟩
      rcases List.mem_cons.1 ((insR_perm x r).mem_iff.1 hz) with rfl | hz
      · unfold leR; simpa using hlt
      · exact h.1 z hz
theorem snoc_ind {α : Type} {P : List α → Prop} (h0 : P []) (h1 : ∀ l x, P l → P (l ++ [x])) (l : List α) : P l := by
  have : ∀ r : List α, P r.reverse := by
    intro r
    induction r with
    | nil => exact h0
    | cons x r ih => rw [List.reverse_cons]; exact h1 _ _ ih
  simpa using this l.reverse
def insAll (l : List Ref) : List Ref := l.foldl (fun a x => insR x a) []
theorem insAll_snoc (l : List Ref) (x : Ref) : insAll (l ++ [x]) = insR x (insAll l) := by unfold insAll; rw [List.foldl_append]; rfl
theorem insAll_len (l : List Ref) : (insAll l).length = l.length := by
  refine snoc_ind (P := fun l => (insAll l).length = l.length) rfl (fun l x ih => ?_) l
  rw [insAll_snoc, insR_len, ih]; simp
theorem insAll_perm (l : List Ref) : List.Perm (insAll l) l := by
  refine snoc_ind (P := fun l => List.Perm (insAll l) l) (List.Perm.refl _) (fun l x ih => ?_) l
  rw [insAll_snoc]
  exact (insR_perm x _).trans ((List.Perm.cons x ih).trans (List.perm_append_comm (l₁ := [x])))
theorem insAll_sorted (l : List Ref) : (insAll l).Pairwise (fun a b => leR a b = true) := by
  refine snoc_ind (P := fun l => (insAll l).Pairwise (fun a b => leR a b = true)) List.Pairwise.nil (fun l x ih => ?_) l
  rw [insAll_snoc]; exact insR_sorted x _ ih
theorem leR_anti (x y : Ref) (h1 : leR x y = true) (h2 : leR y x = true) : x = y := by
  refine totR x y ?_ ?_
  · have : leR y x = !ltR x y := rfl
    rw [this] at h2
    show ltR x y = false
    simpa using h2
  · have : leR x y = !ltR y x := rfl
    rw [this] at h1
    show ltR y x = false
    simpa using h1
theorem insAll_eq (l : List Ref) : insAll l = sortR l := by
  have hs : (sortR l).Pairwise (fun a b => leR a b = true) := List.pairwise_mergeSort (le := leR) leR_tr (fun x y => by
    unfold leR
    rw [ltR_iff, ltR_iff]
    simp only [Bool.or_eq_true, Bool.not_eq_true', decide_eq_false_iff_not]
    omega) l
  exact List.Perm.eq_of_pairwise (le := fun a b => leR a b = true) (fun a b _ _ h1 h2 => leR_anti a b h1 h2) (insAll_sorted l) hs ((insAll_perm l).trans (List.mergeSort_perm l _).symm)

/-! ### owners and counts -/
theorem ownerT_isSome (t : Int) : ∀ ls : List Label, (ownerT ls t).isSome = decide (0 < (allT ls).count t)
  | [] => by simp [ownerT, allT]
  | l :: r => by
    have ih := ownerT_isSome t r
    have hc : allT (l :: r) = seq l.ext ++ allT r := by simp [allT]
    rw [hc, List.count_append]
    unfold ownerT
    have hs := ixT_isSome l.ext t
    cases hx : ixT l.ext t with
    | some k =>
      rw [hx] at hs
      have : 0 < (seq l.ext).count t := List.count_pos_iff.2 (List.contains_iff_mem.1 hs.symm)
      simp
      omega
    | none =>
      rw [hx] at hs
      have hm : t ∉ seq l.ext := fun hm => by rw [List.contains_iff_mem.2 hm] at hs; cases hs
      rw [List.count_eq_zero_of_not_mem hm]
      simp only [Option.isSome_map, Nat.zero_add]
      exact ih
end Go.Proofs.YtjdmgpefjehkaaaGreatDoor
