/- scrub.Lines returns the report: its closures, its map of words. -/
import Derived.Test.YtjdmgpefjehkaaaGreatDoorRLines
namespace Go.Proofs.YtjdmgpefjehkaaaGreatDoor
open Go.RowKit
attribute [local go_sem] Instr.field asAgg
set_option maxRecDepth 100000

theorem own_set {w : World} {base : Nat} {e : TypeId} {size n : Nat} {v : Value} {xs : List Value} (h : w.ownsRow base e size v n xs) {p : Addr} (hp : some p.block ≠ v.ownBlock) (u : Value) : (w.setCell p u).ownsRow base e size v n xs :=
  h.kept (row := some p.block) ⟨rfl, rfl, rfl, by simp [World.setCell], fun k _ hk => Below.heap_setCell w p u k (fun hh => hk (by rw [hh]))⟩ (.inr (Ne.symm hp))
def itoaV : Value := .func (.func 56) #[] #[]
theorem p_unit (k : Int) (hk : I64 k) (g : Nat) (w : World) (hg : w.cell? ⟨g, 0, none⟩ = some (.func (.func 56) #[] #[])) (ht : Tab10 w) :
    Calls Tryz.prog 57 #[.int .i64 k, .pointer (some ⟨g, 0, none⟩)] w fun e w' => e = .returned (.string (lUnit k)) ∧ Ext w w' := by
  have hs := itoaB_size k hk
  by_cases h0 : k = 0
  · rw [show lUnit k = ⟨#[]⟩ from if_pos h0]
    have q : (k == 0) = true := by simp [h0]
    have h0 := Lib.hid h0
    go_enter Tryz.func57, Tryz.ntmps57
    go_wp2
    go_ret
    exact ⟨rfl, Ext.refl _⟩
  · rw [show lUnit k = bOfUnit ++ itoaB k from if_neg h0]
    have q : (k == 0) = false := by simp [h0]
    have h0 := Lib.hid h0
    have q1 : ¬ 9223372036854775807 < 9 + (itoaB k).size := by omega
    go_enter Tryz.func57, Tryz.ntmps57
    go_wp2_with (go_at_call 56; refine (p_itoa k hk _ ht).mono ?_; rintro e w1 ⟨rfl, hx⟩)
    go_ret
    exact ⟨rfl, hx⟩

def AddPost (w0 w : World) (g : Nat) (v : Value) (l : List ByteArray) (w' : World) : Prop :=
  ∃ v', Blk w' g 56 [v'] ∧ w'.ownsRow w0.heap.size 9 1 v' l.length (strCells l) ∧ Ext w0 w' ∧ (∀ k, k < w.heap.size → k ≠ g → some k ≠ v.ownBlock → w'.heap[k]? = w.heap[k]?)
theorem p_add (w0 : World) (g : Nat) (s : ByteArray) (v : Value) (l : List ByteArray) (hl : (l.length : Int) ≤ 2000000) (w : World) (he : Ext w0 w) (hg : w0.heap.size ≤ g) (hB : Blk w g 56 [v])
    (ho : w.ownsRow w0.heap.size 9 1 v l.length (strCells l)) :
    Calls Tryz.prog 58 #[.string s, .pointer (some ⟨g, 0, none⟩)] w fun e w' => e = .returned (.tuple #[]) ∧ AddPost w0 w g v (l ++ [s]) w' := by
  obtain ⟨A, c, rfl, _⟩ := own_slice ho
  have hle := he.le
  have c0 := hB.cell 0 rfl
  have z0 := hB.frozen 0
  have hne := own_far ho hB (by decide)
  go_enter Tryz.func58, Tryz.ntmps58
  go_wp2_with (at_builtin; refine app2 w0.heap.size rfl _ _ _ 9 (.string ⟨#[]⟩) 1 16 rfl Tryz.underlying56 str_info rfl (by omega) (by omega) (.slice A l.length c) _ _ [.string s] rfl (by simp [Value.oneCell']) rfl _ rfl (by simp) ho he.le (by omega) ?_; intro v1 w1 oB gA; obtain ⟨A1, k1, rfl, _⟩ := own_slice oB; have hB1 := hB.grown gA hne; have c1 := hB1.cell 0 rfl; have z1 := hB1.frozen 0)
  go_end0
  exact ⟨rfl, _, hB1.set 0 _, by rw [← strCells_snoc, List.length_append]; exact own_set oB (own_far oB hB1 (by decide)) _, (he.own ho gA).set hg _, fun k h1 h2 h3 => (Below.heap_setCell w1 _ _ k h2).trans (gA.block k h1 h3)⟩

/-- What holds of Lines' own blocks while it gathers: x's box, the lines, the function n. -/
structure LI (w0 : World) (xc : List Value) (w : World) (l : List ByteArray) : Prop where
  X : Blk w w0.heap.size 29 xc
  O : ∃ v, Blk w (w0.heap.size + 1) 56 [v] ∧ w.ownsRow w0.heap.size 9 1 v l.length (strCells l)
  N : Blk w (w0.heap.size + 1 + 1) 90 [.func (.func 56) #[] #[]]
  tab0 : Tab10 w0
  ext : Ext w0 w
theorem LI.tab {w0 w : World} {xc : List Value} {l : List ByteArray} (h : LI w0 xc w l) : Tab10 w := h.tab0.ext h.ext
theorem LI.mono {w0 w w' : World} {xc : List Value} {l : List ByteArray} (h : LI w0 xc w l) (k : Ext w w') : LI w0 xc w' l :=
  ⟨h.X.ext k, h.O.imp fun _ ⟨a, b⟩ => ⟨a.ext k, own_ext b k⟩, h.N.ext k, h.tab0, h.ext.trans k⟩
/-- Blocks that are no row of strings and not the variable 'out'. -/
def KeptL (w0 w w' : World) : Prop := ∀ k o, w.heap[k]? = some o → k ≠ w0.heap.size + 1 → (∀ cs fr, o ≠ .cells cs 9 fr) → w'.heap[k]? = some o
theorem heap_lt {w : World} {k : Nat} {o : Obj} (h : w.heap[k]? = some o) : k < w.heap.size := (Array.getElem?_eq_some_iff.1 h).1
theorem p_addL (w0 : World) (xc : List Value) (s : ByteArray) (l : List ByteArray) (hl : (l.length : Int) ≤ 2000000) (w : World) (h : LI w0 xc w l) :
    Calls Tryz.prog 58 #[.string s, .pointer (some ⟨w0.heap.size + 1, 0, none⟩)] w fun e w' => e = .returned (.tuple #[]) ∧ LI w0 xc w' (l ++ [s]) ∧ KeptL w0 w w' := by
  obtain ⟨v, hB, ho⟩ := h.O
  refine (p_add w0 (w0.heap.size + 1) s v l hl w h.ext (by omega) hB ho).mono ?_
  rintro e w' ⟨rfl, v', hB', ho', he', hk⟩
  have key : KeptL w0 w w' := fun k o hko hne hno => by
    refine (hk k (heap_lt hko) hne ?_).trans hko
    intro hs
    rcases ho.2 with ⟨rfl, _⟩ | ⟨g', cap, cur, rfl, _, hh, _⟩
    · simp [Value.ownBlock] at hs
    · have : k = g' := by simpa [Value.ownBlock] using hs
      subst this
      rw [hh] at hko
      injection hko with hko
      exact hno cur (0, 0) hko.symm
  refine ⟨rfl, ⟨key _ _ h.X (by omega) (by intro cs fr hc; injection hc with _ hc; revert hc; decide), ⟨v', hB', ho'⟩, key _ _ h.N (by omega) (by intro cs fr hc; injection hc with _ hc; revert hc; decide), h.tab0, he'⟩, key⟩
end Go.Proofs.YtjdmgpefjehkaaaGreatDoor
