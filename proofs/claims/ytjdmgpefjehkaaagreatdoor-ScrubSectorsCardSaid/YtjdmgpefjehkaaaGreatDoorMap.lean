/- The contracts of dasdref15.Owner, scrub.Map, dasdref15.Map. -/
import Derived.Test.YtjdmgpefjehkaaaGreatDoorOwner
import Derived.Deep.OwnRows
namespace Go.Proofs.YtjdmgpefjehkaaaGreatDoor
open Go.RowKit
attribute [local go_sem] Instr.field asAgg
set_option maxRecDepth 100000

/-- What Map tells of track i. -/
def mapI (t : Int) (ls : List Label) (i : Nat) : Int := if (i : Int) < tt t then -1 else (ownS ls (8 * i)).id
def mapS (t : Int) (ls : List Label) : List Int := (List.range (trk t).toNat).map (mapI t ls)
theorem trk_bd (t : Int) : 0 ≤ trk t ∧ trk t ≤ 128 := by
  unfold trk
  cases h : okT t
  · simp
  · have := okT_yes h
    simp
    omega
theorem range_snoc {α : Type} (f : Nat → α) (k : Nat) : (List.range (k + 1)).map f = (List.range k).map f ++ [f k] := by rw [List.range_succ, List.map_append]; rfl
theorem ownS_ok {w : World} {A : Option Addr} {ls : List Label} (h : Labels w A ls) (s : Int) : I64 (ownS ls s).id := by
  unfold ownS
  split
  · exact ⟨by decide, by decide⟩
  · split
    · exact ⟨by decide, by decide⟩
    · split
      · rename_i l hl
        exact (h.ok l (List.mem_of_getElem? hl)).1
      · exact ⟨by decide, by decide⟩
theorem mapI_ok {w : World} {A : Option Addr} {ls : List Label} (h : Labels w A ls) (t : Int) (i : Nat) : I64 (mapI t ls i) := by
  unfold mapI
  split
  · exact ⟨by decide, by decide⟩
  · exact ownS_ok h _
theorem mapS_ok {w : World} {A : Option Addr} {ls : List Label} (h : Labels w A ls) (t : Int) : ∀ x ∈ mapS t ls, I64 x := by
  intro x hx
  obtain ⟨i, _, rfl⟩ := List.mem_map.1 hx
  exact mapI_ok h t i

theorem fill_set (L : List Int) (n k : Nat) (x : Int) (hL : L.length = k) (hk : k < n) : (intCells (L ++ List.replicate (n - k) 0)).set k (.int .i64 x) = intCells ((L ++ [x]) ++ List.replicate (n - (k + 1)) 0) := by
  have : n - k = (n - (k + 1)) + 1 := by omega
  subst hL
  rw [this, List.replicate_succ]
  simp [intCells, List.set_append_right]
theorem fill_at (L : List Int) (n k : Nat) (hL : L.length = k) (hk : k < n) : (intCells (L ++ List.replicate (n - k) 0))[k]? = some (.int .i64 0) := by
  have : n - k = (n - (k + 1)) + 1 := by omega
  subst hL
  rw [this, List.replicate_succ]
  simp [intCells]
theorem mapI_own (t : Int) (ls : List Label) (k : Nat) (h : ¬ (k : Int) < tt t) : mapI t ls k = match ownerT ls k with | none => 0 | some p => (match ls[p.1]? with | some l => l.id | none => 0) := by
  unfold mapI
  rw [if_neg h]
  unfold ownS
  rw [if_neg (by omega), show (8 * (k : Int)) / 8 = k by omega]
  cases ownerT ls k with
  | none => rfl
  | some p =>
    obtain ⟨i, m⟩ := p
    dsimp only
    cases ls[i]? <;> rfl

theorem p_Map (nm : ByteArray) (tr : Int) (A : Option Addr) (c : Nat) (ls : List Label) (w : World) (hA : Labels w A ls) :
    Calls Tryz.prog 24 #[.agg #[.string nm, .int .i64 tr, .slice A ls.length c]] w fun e w' => ∃ B cb, e = .returned (.slice B (mapS tr ls).length cb) ∧ Ints w' B (mapS tr ls) ∧ Ext w w' := by
  have hu := Tryz.underlying43
  have hu2 := Tryz.underlying24
  have hbd := trk_bd tr
  obtain ⟨n, hn⟩ : ∃ n : Nat, trk tr = n := ⟨(trk tr).toNat, by omega⟩
  have hT0 := fun w => p_tracks nm tr A ls.length c w
  rw [hn] at hT0 hbd
  have hms : mapS tr ls = (List.range n).map (mapI tr ls) := by unfold mapS; rw [hn]; rfl
  rw [hms]
  have hok := mapS_ok hA tr
  rw [hms] at hok
  have hok := Lib.hid hok
  clear hms hn
  have hmk := fun W => run_make_row' (P := Tryz.prog) 26 3 (.int .i64 0) 8 Tryz.underlying26 int_info rfl .i64 .i64 n (by omega) (by omega) W
  go_enter Tryz.func24, Tryz.ntmps24
  go_wp2_with fail
  refine (hT0 _).mono ?_
  rintro e w1 ⟨rfl, hx1⟩
  clear hT0
  have hT1 := (Blk.new w 24 [.string nm, .int .i64 tr, .slice A ls.length c]).ext hx1
  have hx := ((Ext.refl w).alloc _).trans hx1
  go_wp2
  go_loopg [13] n (fun g i wr => ∃ k : Nat, k + g = n ∧ i = .int .i64 k ∧ Blk wr w1.heap.size 3 (intCells ((List.range k).map (mapI tr ls) ++ List.replicate (n - k) 0)) ∧ Blk wr w.heap.size 24 [.string nm, .int .i64 tr, .slice A ls.length c] ∧ Ext w wr)
  case atStart => exact ⟨0, by omega, rfl, by
    have hm : (intCells ((List.range 0).map (mapI tr ls) ++ List.replicate (n - 0) 0)).toArray = madeCells #[.int .i64 0] n := by
      apply Array.toList_inj.1
      rw [toList_madeCells_one]
      simp [intCells]
    rw [← hm]
    exact Blk.new w1 _ _, hT1.alloc _, hx.alloc _⟩
  case round =>
    obtain ⟨k, hk, rfl, hG, hT, hx2⟩ := hrel
    have hk := Lib.hid hk
    have hxl := hx.le
    have htl := hT1.lt
    rcases Nat.lt_or_ge k n with hlt | hge
    · have d0 := hT.cell 0 rfl
      have d1 := hT.cell 1 rfl
      have d2 := hT.cell 2 rfl
      have hfa := fill_at ((List.range k).map (mapI tr ls)) n k (by simp) hlt
      have hfs := fun x => Lib.hid (fill_set ((List.range k).map (mapI tr ls)) n k x (by simp) hlt)
      have g0 := hG.cell k hfa
      have y0 := hG.frozen k
      clear hfa
      have hm := Lib.hid (range_snoc (mapI tr ls) k)
      by_cases ht : (k : Int) < tt tr
      · have hi : Hid (mapI tr ls k = -1) := if_pos ht
        go_wp2_with (go_at_call 30; refine (p_tt tr _).mono ?_; rintro e w' ⟨rfl, rfl⟩)
        go_roundg (n - k - 1)
        case measure => have := hk.out; omega
        case rel => exact ⟨k + 1, by omega, by go_num, by rw [hm.out, hi.out, ← (hfs (-1)).out]; exact hG.set k _, hT.far (by dsimp only; omega) _, hx2.set (by dsimp only; omega) _⟩
      · have hi := Lib.hid (mapI_own tr ls k ht)
        go_wp2_with (first | (go_at_call 30; refine (p_tt tr _).mono ?_; rintro e w' ⟨rfl, rfl⟩) | fail)
        refine (p_owner nm tr A c ls k ⟨by omega, by omega⟩ _ (hA.ext hx2)).mono ?_
        rintro e w2 ⟨rfl, hx3⟩
        have hx4 := hx2.trans hx3
        have hT2 := hT.ext hx3
        have hG2 := hG.ext hx3
        clear d0 d1 d2
        have d2 := hT2.cell 2 rfl
        have g0 := hx3.cell g0
        have y0 := hG2.frozen k
        cases ho : ownerT ls (k : Int) with
        | none =>
          have hi := hi.out
          rw [ho] at hi
          dsimp only at hi
          have hi := Lib.hid hi
          have ho := Lib.hid ho
          go_wp2
          go_roundg (n - k - 1)
          case measure => have := hk.out; omega
          case rel =>
            refine ⟨k + 1, by omega, by go_num, ?_, hT2, hx4⟩
            rw [hm.out, hi.out]
            have : n - k = (n - (k + 1)) + 1 := by omega
            rw [this, List.replicate_succ] at hG2
            simpa using hG2
        | some p =>
          obtain ⟨j, m⟩ := p
          obtain ⟨hj, _⟩ := ownerT_at _ _ _ _ ho
          have hi := hi.out
          rw [ho] at hi
          simp only [List.getElem?_eq_getElem hj] at hi
          have hi := Lib.hid hi
          have ho := Lib.hid ho
          obtain ⟨b, o, B, cb, rfl, a0, a1, _, _, a4, hB, _⟩ := (hA.ext hx4).at_ hj
          go_wp2
          go_roundg (n - k - 1)
          case measure => have := hk.out; omega
          case rel => exact ⟨k + 1, by omega, by go_num, by rw [hm.out, hi.out, ← (hfs _).out]; exact hG2.set k _, hT2.far (by dsimp only; omega) _, hx4.set (by dsimp only; omega) _⟩
    · have hke : k = n := by have := hk.out; omega
      go_wp2
      go_ret
      refine ⟨some ⟨w1.heap.size, 0, none⟩, n, by simp, ?_, hx2⟩
      rw [hke] at hG
      exact ⟨by simpa using Sl.blk hG, hok.out, by simp; omega⟩
end Go.Proofs.YtjdmgpefjehkaaaGreatDoor
