/- The normal form of a set of tracks, as a fold over the tracks; no program in sight. -/
import Derived.Test.YtjdmgpefjehkaaaGreatDoorBase
namespace Go.Proofs.YtjdmgpefjehkaaaGreatDoor
open Go.RowKit

def bumpLast : List Run → List Run
  | [] => []
  | [r] => [⟨r.f, r.c + 1⟩]
  | r :: s :: l => r :: bumpLast (s :: l)
theorem bumpLast_snoc (l : List Run) (r : Run) : bumpLast (l ++ [r]) = l ++ [⟨r.f, r.c + 1⟩] := by
  induction l with
  | nil => rfl
  | cons a l ih =>
    cases l with
    | nil => rfl
    | cons b l => rw [List.cons_append, List.cons_append, bumpLast, ← List.cons_append, ih]; rfl
theorem bumpLast_len (l : List Run) : (bumpLast l).length = l.length := by
  induction l with
  | nil => rfl
  | cons a l ih =>
    cases l with
    | nil => rfl
    | cons b l => rw [bumpLast]; simp [ih]
theorem snoc_of_ne {α : Type} {l : List α} (h : l ≠ []) : ∃ r x, l = r ++ [x] := ⟨l.dropLast, l.getLast h, (List.dropLast_concat_getLast h).symm⟩
theorem flat_len (l : List Run) : (l.flatMap runCells).length = l.length * 2 := flatMap_len runCells 2 runCells_len l
theorem set_cells (s : List Run) (r : Run) (x : Int) : ((s ++ [r]).flatMap runCells).set (s.length * 2 + 1) (.int .i64 x) = (s ++ [(⟨r.f, x⟩ : Run)]).flatMap runCells := by
  rw [List.flatMap_append, List.flatMap_append, List.set_append_right _ _ (by rw [flat_len]; omega), flat_len]
  have : s.length * 2 + 1 - s.length * 2 = 1 := by omega
  rw [this]
  rfl

/-- The normal form of the tracks below n that p holds of. -/
def normTo (p : Nat → Bool) : Nat → List Run
  | 0 => []
  | n + 1 => if p n = true then (if 0 < n ∧ p (n - 1) = true then bumpLast (normTo p n) else normTo p n ++ [⟨n, 1⟩]) else normTo p n
theorem normTo_last (p : Nat → Bool) : ∀ n, 0 < n → p (n - 1) = true → ∃ (s : List Run) (r : Run), normTo p n = s ++ [r] ∧ r.f + r.c = (n : Int)
  | n + 1, _, h => by
    have h' : p n = true := by simpa using h
    rw [normTo, if_pos h']
    by_cases hn : 0 < n ∧ p (n - 1) = true
    · obtain ⟨s, r, he, hr⟩ := normTo_last p n hn.1 hn.2
      rw [if_pos hn, he, bumpLast_snoc]
      exact ⟨s, _, rfl, by dsimp only; omega⟩
    · rw [if_neg hn]
      exact ⟨_, _, rfl, by dsimp only; omega⟩
/-- Its runs are in order, apart, and lie below n. -/
theorem normTo_bd (p : Nat → Bool) : ∀ n, ∀ r ∈ normTo p n, 0 ≤ r.f ∧ 1 ≤ r.c ∧ r.f + r.c ≤ n
  | 0, r, h => by simp [normTo] at h
  | n + 1, r, h => by
    rw [normTo] at h
    split at h
    · split at h
      · rename_i h1 h2
        obtain ⟨s, q, he, hq⟩ := normTo_last p n h2.1 h2.2
        rw [he, bumpLast_snoc] at h
        rcases List.mem_append.1 h with hm | hm
        · have := normTo_bd p n r (by rw [he]; exact List.mem_append_left _ hm); omega
        · have := normTo_bd p n q (by rw [he]; simp)
          obtain rfl := List.mem_singleton.1 hm
          dsimp only
          omega
      · rcases List.mem_append.1 h with hm | hm
        · have := normTo_bd p n r hm; omega
        · obtain rfl := List.mem_singleton.1 hm
          dsimp only
          omega
    · have := normTo_bd p n r h; omega
theorem normTo_len (p : Nat → Bool) : ∀ n, (normTo p n).length ≤ n
  | 0 => by simp [normTo]
  | n + 1 => by
    have := normTo_len p n
    rw [normTo]
    split
    · split
      · rw [bumpLast_len]; omega
      · simp; omega
    · omega
theorem normTo_ok (p : Nat → Bool) (n : Nat) (hn : n ≤ 1000000) : ∀ r ∈ normTo p n, r.ok := fun r hr => by
  have := normTo_bd p n r hr
  exact ⟨⟨by omega, by omega⟩, by omega, by omega⟩
theorem normTo_congr {p q : Nat → Bool} : ∀ n, (∀ i, i < n → p i = q i) → normTo p n = normTo q n
  | 0, _ => rfl
  | n + 1, h => by
    rw [normTo, normTo, normTo_congr n (fun i hi => h i (by omega)), h n (by omega)]
    by_cases hn : 0 < n
    · rw [h (n - 1) (by omega)]
    · simp [hn]
theorem clip_small (r : Run) (h0 : 0 ≤ r.f) (h1 : 1 ≤ r.c) (h2 : r.f + r.c ≤ 128) : clip r = r := by
  unfold clip
  rw [if_neg (by omega)]
  have : (if r.f < 0 ∨ r.c < 128 - r.f then min 128 (r.f + r.c) else 128) = r.f + r.c := by split <;> omega
  rw [this, if_neg (by omega)]
  cases r
  simp only [Run.mk.injEq] at *
  omega
theorem seq_normTo (p : Nat → Bool) : ∀ n, n ≤ 128 → seq (normTo p n) = ((List.range n).filter p).map (fun i : Nat => (i : Int))
  | 0, _ => rfl
  | n + 1, hn => by
    have ih := seq_normTo p n (by omega)
    rw [List.range_succ, List.filter_append, List.map_append, ← ih, normTo]
    by_cases h1 : p n = true
    · rw [if_pos h1]
      have hf : (List.filter p [n]).map (fun i : Nat => (i : Int)) = [(n : Int)] := by simp [h1]
      rw [hf]
      by_cases h2 : 0 < n ∧ p (n - 1) = true
      · rw [if_pos h2]
        obtain ⟨s, r, he, hr⟩ := normTo_last p n h2.1 h2.2
        have hb := normTo_bd p n r (by rw [he]; simp)
        rw [he, bumpLast_snoc]
        unfold seq
        rw [List.flatMap_append, List.flatMap_append, List.append_assoc]
        congr 1
        simp only [List.flatMap_cons, List.flatMap_nil, List.append_nil]
        unfold seqR
        rw [clip_small r (by omega) (by omega) (by omega), clip_small ⟨r.f, r.c + 1⟩ (by dsimp only; omega) (by dsimp only; omega) (by dsimp only; omega)]
        dsimp only
        have : (r.c + 1).toNat = r.c.toNat + 1 := by omega
        rw [this, List.range_succ, List.map_append]
        congr 1
        simp
        omega
      · rw [if_neg h2]
        unfold seq
        rw [List.flatMap_append]
        congr 1
        simp only [List.flatMap_cons, List.flatMap_nil, List.append_nil]
        unfold seqR
        rw [clip_small ⟨n, 1⟩ (by dsimp only; omega) (by dsimp only; omega) (by dsimp only; omega)]
        simp
    · rw [if_neg h1]
      simp [h1]
/-- The normal form of a set, given by its 128 bits. -/
def norm (p : Int → Bool) : List Run := normTo (fun i : Nat => p (i : Int)) 128
theorem seq_norm (p : Int → Bool) : seq (norm p) = ((List.range 128).filter (fun i : Nat => p (i : Int))).map (fun i : Nat => (i : Int)) := seq_normTo _ 128 (Nat.le_refl _)
theorem ixT_isSome (rs : List Run) (t : Int) : (ixT rs t).isSome = (seq rs).contains t := by
  unfold ixT
  by_cases h : t ∈ seq rs
  · rw [List.contains_iff_mem.2 h]
    cases hx : (seq rs).idxOf? t with
    | some i => rfl
    | none => exact absurd h (List.idxOf?_eq_none_iff.1 hx)
  · rw [List.idxOf?_eq_none_iff.2 h]
    simp [h]
theorem in_norm (p : Int → Bool) (t : Int) (h0 : 0 ≤ t) (h1 : t < 128) : (seq (norm p)).contains t = p t := by
  rw [seq_norm, Bool.eq_iff_iff, List.contains_iff_mem]
  simp only [List.mem_map, List.mem_filter, List.mem_range]
  constructor
  · rintro ⟨i, ⟨_, h⟩, rfl⟩; exact h
  · intro h; exact ⟨t.toNat, ⟨by omega, by rw [Int.toNat_of_nonneg h0]; exact h⟩, by omega⟩
end Go.Proofs.YtjdmgpefjehkaaaGreatDoor
