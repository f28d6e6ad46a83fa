/- What a table finds of a reference: index, Find, in the reference and in the program; numbers of bytes. -/
import Derived.Test.YtjdmgpefjehkaaaGreatDoorOwner
import Derived.Test.YtjdmgpefjehkaaaGreatDoorLabEq
import Derived.Test.YtjdmgpefjehkaaaGreatDoorExtent
import Derived.Test.YtjdmgpefjehkaaaGreatDoorMaps
import Derived.Lib.LazyBuf
import Derived.Laws.EntriesVeiled
namespace Go.Proofs.YtjdmgpefjehkaaaGreatDoor
open Go.RowKit
attribute [local go_sem] Instr.field asAgg
set_option maxRecDepth 100000

def isR (r : Ref) (l : Label) : Bool := !(r.id == 0) && (l.id == r.id && l.unit == r.unit)
def ixR (ls : List Label) (r : Ref) : Option Nat := ls.findIdx? (isR r)
def ixI (ls : List Label) (r : Ref) : Int := match ixR ls r with | some i => (i : Int) | none => -1
theorem ixR_at {ls : List Label} {r : Ref} {k : Nat} (hk : k < ls.length) (hn : ∀ j (h : j < ls.length), j < k → isR r ls[j] = false) (h : isR r ls[k] = true) : ixR ls r = some k := by
  unfold ixR
  rw [List.findIdx?_eq_some_iff_getElem]
  exact ⟨hk, h, fun j hj => by simpa using hn j (by omega) hj⟩
theorem ixR_none {ls : List Label} {r : Ref} (hn : ∀ j (h : j < ls.length), isR r ls[j] = false) : ixR ls r = none := by
  unfold ixR
  rw [List.findIdx?_eq_none_iff]
  intro x hx
  obtain ⟨j, hj, rfl⟩ := List.getElem_of_mem hx
  exact hn j hj
theorem r_index8 (nm : ByteArray) (tr : Int) (A : Option Addr) (c : Nat) (ls : List Label) (r : Ref) (w : World) (hA : Labels w A ls) :
    Calls Tryz.prog 62 #[.agg #[.string nm, .int .i64 tr, .slice A ls.length c], .agg #[.int .i64 r.id, .int .i64 r.unit]] w fun e w' => e = .returned (.int .i64 (ixI ls r)) ∧ Ext w w' := by
  have hu2 := Tryz.underlying24
  have hu3 := Tryz.underlying43
  have hu4 := Tryz.underlying40
  have hlen := hA.len
  go_enter Tryz.func62, Tryz.ntmps62
  go_wp2
  go_loopg [5] ls.length (fun g i wr => ∃ k : Nat, k + g = ls.length ∧ i = .int .i64 k ∧ Hid (∀ j (h : j < ls.length), j < k → isR r ls[j] = false) ∧ Blk wr w.heap.size 24 [.string nm, .int .i64 tr, .slice A ls.length c] ∧ Blk wr (w.heap.size + 1) 40 [.int .i64 r.id, .int .i64 r.unit] ∧ Ext w wr)
  case atStart => exact ⟨0, by omega, rfl, fun j _ h => by omega, (Blk.new w _ [_, _, _]).alloc _, Blk.new_at (by simp) _ [_, _], ((Ext.refl w).alloc _).alloc _⟩
  case round =>
    obtain ⟨k, hk, rfl, hn, hT, hR, hx⟩ := hrel
    have hk := Lib.hid hk
    have d2 := hT.cell 2 rfl
    have r0 := hR.cell 0 rfl
    have r1 := hR.cell 1 rfl
    rcases Nat.lt_or_ge k ls.length with hlt | hge
    · obtain ⟨b, o, B, cB, rfl, a0, a1, a2, a3, a4, _, _⟩ := hA.at_ hlt
      have h0 := hx.cell a0
      have h1 := hx.cell a1
      have hlt1 : (k : Int) < (ls.length : Int) := by omega
      have hk0 : (0 : Int) ≤ (k : Int) := by omega
      have hyes := fun h => Lib.hid (ixR_at hlt hn.out h)
      have hno := fun h => Lib.hid (all_snoc (P := fun l : Label => isR r l = false) hn.out hlt h)
      cases q0 : (r.id == 0) with
      | true =>
        have q1 : (r.id != 0) = false := by simp [bne, q0]
        have hf := hno (by simp [isR, q0])
        clear hyes hno
        go_wp2_with fail
        go_quiet (fail)
        go_wp2
        go_roundg (ls.length - k - 1)
        case measure => have := hk.out; omega
        case rel => exact ⟨k + 1, by omega, by go_num, hf.out, hT.drewN _, hR.drewN _, hx.drewN _⟩
      | false =>
        have q1 : (r.id != 0) = true := by simp [bne, q0]
        cases q2 : (ls[k].id == r.id) with
        | false =>
          have hf := hno (by simp [isR, q0, q2])
          clear hyes hno
          go_wp2_with fail
          go_quiet (fail)
          go_wp2
          go_roundg (ls.length - k - 1)
          case measure => have := hk.out; omega
          case rel => exact ⟨k + 1, by omega, by go_num, hf.out, hT.drewN _, hR.drewN _, hx.drewN _⟩
        | true =>
          cases q3 : (ls[k].unit == r.unit) with
          | false =>
            have hf := hno (by simp [isR, q0, q2, q3])
            clear hyes hno
            go_wp2_with fail
            go_quiet (fail)
            go_wp2
            go_roundg (ls.length - k - 1)
            case measure => have := hk.out; omega
            case rel => exact ⟨k + 1, by omega, by go_num, hf.out, hT.drewN _, hR.drewN _, hx.drewN _⟩
          | true =>
            have hf := hyes (by simp [isR, q0, q2, q3])
            clear hyes hno
            go_wp2_with fail
            go_quiet (fail)
            go_wp2
            go_ret
            exact ⟨by rw [show ixI ls r = (k : Int) by unfold ixI; rw [hf.out]]; rfl, hx.drewN _⟩
    · have hf := Lib.hid (ixR_none fun j h => hn.out j h (by omega))
      go_wp2
      go_ret
      exact ⟨by rw [show ixI ls r = -1 by unfold ixI; rw [hf.out]]; rfl, hx⟩

/-! ### the label of a reference -/
theorem Ext.set5 {a w : World} (h : Ext a w) {g : Nat} (hg : a.heap.size ≤ g) (v0 v1 v2 v3 v4 : Value) : Ext a (((((w.setCell ⟨g, 0, none⟩ v0).setCell ⟨g, 1, none⟩ v1).setCell ⟨g, 2, none⟩ v2).setCell ⟨g, 3, none⟩ v3).setCell ⟨g, 4, none⟩ v4) :=
  ((((h.set (p := ⟨g, 0, none⟩) hg _).set (p := ⟨g, 1, none⟩) hg _).set (p := ⟨g, 2, none⟩) hg _).set (p := ⟨g, 3, none⟩) hg _).set (p := ⟨g, 4, none⟩) hg _
def findL (ls : List Label) (r : Ref) : Label := match ixR ls r with | some i => (ls[i]?).getD zeroL | none => zeroL
theorem ixR_lt {ls : List Label} {r : Ref} {i : Nat} (h : ixR ls r = some i) : i < ls.length := by
  unfold ixR at h
  rw [List.findIdx?_eq_some_iff_getElem] at h
  exact h.1
theorem findL_some {ls : List Label} {r : Ref} {i : Nat} (h : ixR ls r = some i) (hi : i < ls.length) : findL ls r = ls[i] := by
  unfold findL
  rw [h]
  simp [List.getElem?_eq_getElem hi]
theorem findL_none {ls : List Label} {r : Ref} (h : ixR ls r = none) : findL ls r = zeroL := by
  unfold findL
  rw [h]
def isF (ls : List Label) (r : Ref) : Bool := (ixR ls r).isSome

theorem r_Find8 (nm : ByteArray) (tr : Int) (A : Option Addr) (c : Nat) (ls : List Label) (r : Ref) (w0 w : World) (hA0 : Labels w0 A ls) (h0x : Ext w0 w) :
    Calls Tryz.prog 37 #[.agg #[.string nm, .int .i64 tr, .slice A ls.length c], .agg #[.int .i64 r.id, .int .i64 r.unit]] w fun e w' =>
      ∃ B cB, e = .returned (.tuple #[.agg #[.int .i64 (findL ls r).id, .int .i64 (findL ls r).unit, .string (findL ls r).name, .string (findL ls r).note, .slice B (findL ls r).ext.length cB], .bool (isF ls r)]) ∧ Runs w0 B (findL ls r).ext ∧ Ext w w' := by
  have hA := hA0.ext h0x
  have hu2 := Tryz.underlying24
  have hu3 := Tryz.underlying43
  have hu4 := Tryz.underlying40
  have HI := fun w => r_index8 nm tr A c ls r w
  have hO0 := Blk.new_at (g := w.heap.size + 1 + 1) (w := (w.alloc (.cells #[.string nm, .int .i64 tr, .slice A ls.length c] 24)).alloc (.cells #[.int .i64 r.id, .int .i64 r.unit] 40)) (by simp) 43 [.int .i64 0, .int .i64 0, .string ⟨#[]⟩, .string ⟨#[]⟩, .slice none 0 0]
  have hT0 := ((Blk.new w 24 [.string nm, .int .i64 tr, .slice A ls.length c]).alloc (.cells #[.int .i64 r.id, .int .i64 r.unit] 40)).alloc (.cells #[.int .i64 0, .int .i64 0, .string ⟨#[]⟩, .string ⟨#[]⟩, .slice none 0 0] 43)
  have hx0 := (((Ext.refl w).alloc (.cells #[.string nm, .int .i64 tr, .slice A ls.length c] 24)).alloc (.cells #[.int .i64 r.id, .int .i64 r.unit] 40)).alloc (.cells #[.int .i64 0, .int .i64 0, .string ⟨#[]⟩, .string ⟨#[]⟩, .slice none 0 0] 43)
  cases hi : ixR ls r with
  | none =>
    rw [show ixI ls r = -1 by unfold ixI; rw [hi]] at HI
    have hf := findL_none hi
    have hz : isF ls r = false := by unfold isF; rw [hi]; rfl
    rw [hf, hz]
    clear hf hz hi
    go_enter Tryz.func37, Tryz.ntmps37
    go_wp2_with fail
    refine (HI _ (hA.ext hx0)).mono ?_
    rintro e w1 ⟨rfl, hx1⟩
    have hO := hO0.ext hx1
    have o0 := hO.cell 0 rfl
    have o1 := hO.cell 1 rfl
    have o2 := hO.cell 2 rfl
    have o3 := hO.cell 3 rfl
    have o4 := hO.cell 4 rfl
    have z0 := hO.frozen 0
    have z1 := hO.frozen 1
    have z2 := hO.frozen 2
    have z3 := hO.frozen 3
    have z4 := hO.frozen 4
    have hx := hx0.trans hx1
    go_wp2
    have hF := ((((hO.set 0 (.int .i64 0)).set 1 (.int .i64 0)).set 2 (.string ⟨#[]⟩)).set 3 (.string ⟨#[]⟩)).set 4 (.slice none 0 0)
    have e0 := hF.cell 0 rfl
    have e1 := hF.cell 1 rfl
    have e2 := hF.cell 2 rfl
    have e3 := hF.cell 3 rfl
    have e4 := hF.cell 4 rfl
    exact bodyPost_ret (v := .tuple #[.agg #[.int .i64 0, .int .i64 0, .string ⟨#[]⟩, .string ⟨#[]⟩, .slice none 0 0], .bool false]) (by simp [results, Tryz.results37, go_sem, e0, e1, e2, e3, e4]) rfl ⟨none, 0, rfl, Runs.nil _ _, hx.set5 (by omega) _ _ _ _ _⟩
  | some i =>
    have hil := ixR_lt hi
    rw [show ixI ls r = (i : Int) by unfold ixI; rw [hi]] at HI
    have hf := findL_some hi hil
    have hz : isF ls r = true := by unfold isF; rw [hi]; rfl
    rw [hf, hz]
    clear hf hz hi
    have hlen := hA.len
    obtain ⟨b, o, B, cB, rfl, q0, q1, q2, q3, q4, hB, _⟩ := hA0.at_ hil
    have a0 := h0x.cell q0
    have a1 := h0x.cell q1
    have a2 := h0x.cell q2
    have a3 := h0x.cell q3
    have a4 := h0x.cell q4
    clear q0 q1 q2 q3 q4
    have hi1 : (0 : Int) ≤ (i : Int) := by omega
    have hi2 : (i : Int) < (ls.length : Int) := by omega
    generalize ls[i] = l at *
    go_enter Tryz.func37, Tryz.ntmps37
    go_wp2_with fail
    refine (HI _ (hA.ext hx0)).mono ?_
    rintro e w1 ⟨rfl, hx1⟩
    have hO := hO0.ext hx1
    have hT := hT0.ext hx1
    have t2 := hT.cell 2 rfl
    have o0 := hO.cell 0 rfl
    have o1 := hO.cell 1 rfl
    have o2 := hO.cell 2 rfl
    have o3 := hO.cell 3 rfl
    have o4 := hO.cell 4 rfl
    have z0 := hO.frozen 0
    have z1 := hO.frozen 1
    have z2 := hO.frozen 2
    have z3 := hO.frozen 3
    have z4 := hO.frozen 4
    have hx := hx0.trans hx1
    have h0 := hx.cell a0
    have h1 := hx.cell a1
    have h2 := hx.cell a2
    have h3 := hx.cell a3
    have h4 := hx.cell a4
    go_wp2
    have hF := ((((hO.set 0 (.int .i64 l.id)).set 1 (.int .i64 l.unit)).set 2 (.string l.name)).set 3 (.string l.note)).set 4 (.slice B l.ext.length cB)
    have e0 := hF.cell 0 rfl
    have e1 := hF.cell 1 rfl
    have e2 := hF.cell 2 rfl
    have e3 := hF.cell 3 rfl
    have e4 := hF.cell 4 rfl
    have hxF := hx.set5 (g := w.heap.size + 1 + 1) (by omega) (.int .i64 l.id) (.int .i64 l.unit) (.string l.name) (.string l.note) (.slice B l.ext.length cB)
    exact bodyPost_ret (v := .tuple #[.agg #[.int .i64 l.id, .int .i64 l.unit, .string l.name, .string l.note, .slice B l.ext.length cB], .bool true]) (by simp [results, Tryz.results37, go_sem, e0, e1, e2, e3, e4]) rfl ⟨B, cB, rfl, hB, hxF⟩
end Go.Proofs.YtjdmgpefjehkaaaGreatDoor
