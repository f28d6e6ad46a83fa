/- Labels and tables as plain data, and how they lie in memory; the owner of a track. No program in sight. -/
import Derived.Test.YtjdmgpefjehkaaaGreatDoorRef05
namespace Go.Proofs.YtjdmgpefjehkaaaGreatDoor
open Go.RowKit

structure Label where
  id : Int
  unit : Int
  name : ByteArray
  note : ByteArray
  ext : List Run
structure LAt where
  l : Label
  A : Option Addr
  c : Nat
def lCells (x : LAt) : List Value := [.int .i64 x.l.id, .int .i64 x.l.unit, .string x.l.name, .string x.l.note, .slice x.A x.l.ext.length x.c]
theorem lCells_len (x : LAt) : (lCells x).length = 5 := rfl
def Label.ok (l : Label) : Prop := I64 l.id ∧ I64 l.unit ∧ (l.name.size : Int) ≤ 140737488351232 ∧ (l.note.size : Int) ≤ 140737488351232
structure Labels (w : World) (A : Option Addr) (ls : List Label) : Prop where
  ex : ∃ xs : List LAt, xs.map (·.l) = ls ∧ Sl w A (xs.flatMap lCells) ∧ ∀ x ∈ xs, Runs w x.A x.l.ext ∧ x.l.ext.length ≤ x.c
  ok : ∀ l ∈ ls, l.ok
  len : (ls.length : Int) ≤ 1954687338211
theorem Labels.ext {w w' : World} {A : Option Addr} {ls : List Label} (h : Labels w A ls) (k : Ext w w') : Labels w' A ls := by
  obtain ⟨xs, h1, h2, h3⟩ := h.ex
  exact ⟨⟨xs, h1, h2.ext k, fun x hx => ⟨(h3 x hx).1.ext k, (h3 x hx).2⟩⟩, h.ok, h.len⟩
theorem Labels.at_ {w : World} {A : Option Addr} {ls : List Label} (h : Labels w A ls) {i : Nat} (hi : i < ls.length) :
    ∃ b o B c, A = some ⟨b, o, none⟩ ∧ w.cell? ⟨b, o + i * 5, none⟩ = some (.int .i64 ls[i].id) ∧ w.cell? ⟨b, o + i * 5 + 1, none⟩ = some (.int .i64 ls[i].unit) ∧
      w.cell? ⟨b, o + i * 5 + 2, none⟩ = some (.string ls[i].name) ∧ w.cell? ⟨b, o + i * 5 + 3, none⟩ = some (.string ls[i].note) ∧
      w.cell? ⟨b, o + i * 5 + 4, none⟩ = some (.slice B ls[i].ext.length c) ∧ Runs w B ls[i].ext ∧ ls[i].ext.length ≤ c := by
  obtain ⟨xs, rfl, h2, h3⟩ := h.ex
  have hi' : i < xs.length := by simpa using hi
  obtain ⟨b, o, e, hc⟩ := h2.at_ lCells_len (by omega) hi'
  have hx := h3 xs[i] (List.getElem_mem hi')
  simp only [List.getElem_map]
  refine ⟨b, o, xs[i].A, xs[i].c, e, ?_, ?_, ?_, ?_, ?_, hx.1, hx.2⟩
  · have := hc 0 _ rfl; simpa using this
  · have := hc 1 _ rfl; rwa [← Nat.add_assoc] at this
  · have := hc 2 _ rfl; rwa [← Nat.add_assoc] at this
  · have := hc 3 _ rfl; rwa [← Nat.add_assoc] at this
  · have := hc 4 _ rfl; rwa [← Nat.add_assoc] at this
theorem Labels.okAt {w : World} {A : Option Addr} {ls : List Label} (h : Labels w A ls) {i : Nat} (hi : i < ls.length) : ls[i].ok := h.ok _ (List.getElem_mem hi)

/-! ### the owner of a track -/
def ownerT : List Label → Int → Option (Nat × Nat)
  | [], _ => none
  | l :: r, t => match ixT l.ext t with
    | some k => some (0, k)
    | none => (ownerT r t).map fun p => (p.1 + 1, p.2)
theorem ownerT_some (t : Int) (m : Nat) : ∀ (ls : List Label) (k : Nat) (hk : k < ls.length), (∀ j (h : j < ls.length), j < k → ixT ls[j].ext t = none) → ixT ls[k].ext t = some m → ownerT ls t = some (k, m)
  | l :: r, 0, _, _, h => by
    have h : ixT l.ext t = some m := h
    simp [ownerT, h]
  | l :: r, k + 1, hk, hn, h => by
    have h0 : ixT l.ext t = none := hn 0 (by simp) (by omega)
    have ih := ownerT_some t m r k (by simpa using hk) (fun j hj hjk => hn (j + 1) (by simpa using hj) (by omega)) h
    simp [ownerT, h0, ih]
theorem ownerT_none (t : Int) : ∀ (ls : List Label), (∀ j (h : j < ls.length), ixT ls[j].ext t = none) → ownerT ls t = none
  | [], _ => rfl
  | l :: r, hn => by
    have h0 : ixT l.ext t = none := hn 0 (by simp)
    have ih := ownerT_none t r (fun j hj => hn (j + 1) (by simpa using hj))
    simp [ownerT, h0, ih]
theorem ownerT_at (t : Int) : ∀ (ls : List Label) (k m : Nat), ownerT ls t = some (k, m) → ∃ h : k < ls.length, ixT ls[k].ext t = some m
  | l :: r, k, m, h => by
    unfold ownerT at h
    cases hx : ixT l.ext t with
    | some q =>
      rw [hx] at h
      simp only [Option.some.injEq, Prod.mk.injEq] at h
      obtain ⟨rfl, rfl⟩ := h
      exact ⟨by simp, hx⟩
    | none =>
      rw [hx] at h
      simp only [Option.map_eq_some_iff, Prod.mk.injEq] at h
      obtain ⟨⟨k', m'⟩, h1, rfl, rfl⟩ := h
      obtain ⟨h2, h3⟩ := ownerT_at t r k' m' h1
      exact ⟨by simpa using h2, h3⟩
theorem ixT_lt (rs : List Run) (t : Int) (m : Nat) (h : ixT rs t = some m) : m < (seq rs).length := by
  unfold ixT at h
  rw [List.idxOf?, List.findIdx?_eq_some_iff_getElem] at h
  exact h.1
/-- Owner: the reference, the number, whether there is one. -/
structure Own where
  id : Int
  unit : Int
  n : Int
  is : Bool
deriving DecidableEq
def ownS (ls : List Label) (s : Int) : Own :=
  if s < 0 then ⟨0, 0, 0, false⟩ else match ownerT ls (s / 8) with
    | none => ⟨0, 0, 0, false⟩
    | some (k, m) => match ls[k]? with
      | some l => ⟨l.id, l.unit, (m : Int) * 8 + s % 8, true⟩
      | none => ⟨0, 0, 0, false⟩
theorem ownS_neg (ls : List Label) (s : Int) (h : s < 0) : ownS ls s = ⟨0, 0, 0, false⟩ := by unfold ownS; rw [if_pos h]
theorem ownS_none (ls : List Label) (s : Int) (h : 0 ≤ s) (hn : ownerT ls (s / 8) = none) : ownS ls s = ⟨0, 0, 0, false⟩ := by unfold ownS; rw [if_neg (by omega), hn]
theorem ownS_some (ls : List Label) (s : Int) (h : 0 ≤ s) {k m : Nat} (hk : k < ls.length) (hn : ownerT ls (s / 8) = some (k, m)) : ownS ls s = ⟨ls[k].id, ls[k].unit, (m : Int) * 8 + s % 8, true⟩ := by
  unfold ownS
  rw [if_neg (by omega), hn]
  simp only [List.getElem?_eq_getElem hk]
end Go.Proofs.YtjdmgpefjehkaaaGreatDoor
