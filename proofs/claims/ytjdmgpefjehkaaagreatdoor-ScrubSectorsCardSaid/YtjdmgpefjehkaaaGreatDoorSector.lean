/- What contents.Sector tells: the sector of the volume at a number of a label's sectors. -/
import Derived.Test.YtjdmgpefjehkaaaGreatDoorExtent
import Derived.Test.YtjdmgpefjehkaaaGreatDoorTab
namespace Go.Proofs.YtjdmgpefjehkaaaGreatDoor
open Go.RowKit
attribute [local go_sem] Instr.field asAgg
set_option maxRecDepth 100000

def sectorT (es : List Run) (s : Int) : Option Int := if s < 0 then none else (atT es (s / 8)).map fun t => t * 8 + s % 8
theorem atT_bd {rs : List Run} {i t : Int} (h : atT rs i = some t) : 0 ≤ t ∧ t < 128 := by
  unfold atT at h
  split at h
  · exact seq_bd rs t (List.mem_of_getElem? h)
  · simp at h
theorem p_Sector (l : Label) (A : Option Addr) (c : Nat) (s : Int) (hs : I64 s) (w : World) (hA : Runs w A l.ext) :
    Calls Tryz.prog 19 #[.agg #[.int .i64 l.id, .int .i64 l.unit, .string l.name, .string l.note, .slice A l.ext.length c], .int .i64 s] w fun e w' =>
      e = .returned (.tuple #[.int .i64 ((sectorT l.ext s).getD 0), .bool (sectorT l.ext s).isSome]) ∧ Ext w w' := by
  have hu := Tryz.underlying43
  obtain ⟨s1, s2⟩ := hs
  by_cases hn : s < 0
  · have he := Lib.hid (show sectorT l.ext s = none by simp [sectorT, hn])
    go_enter Tryz.func19, Tryz.ntmps19
    go_wp2
    go_ret2
    exact ⟨by rw [he.out]; rfl, (Ext.refl w).alloc _⟩
  · have h0 : 0 ≤ s := by omega
    clear hn
    have hq : s.tdiv 8 = s / 8 := Int.tdiv_eq_ediv_of_nonneg h0
    have hr : s.tmod 8 = s % 8 := Int.tmod_eq_emod_of_nonneg h0
    have H := fun w => at_any A c l.ext (s / 8) ⟨by omega, by omega⟩ w
    cases hi : atT l.ext (s / 8) with
    | none =>
      have he := Lib.hid (show sectorT l.ext s = none by simp [sectorT, hi])
      rw [hi] at H
      clear hi
      go_enter Tryz.func19, Tryz.ntmps19
      go_wp2_with fail
      refine (H _ (hA.ext ((Ext.refl _).alloc _))).mono ?_
      rintro e w1 ⟨rfl, hx1⟩
      go_wp2
      go_ret2
      exact ⟨by rw [he.out]; rfl, ((Ext.refl w).alloc _).trans hx1⟩
    | some t =>
      have hb := atT_bd hi
      have he := Lib.hid (show sectorT l.ext s = some (t * 8 + s % 8) by simp [sectorT, hi]; omega)
      rw [hi] at H
      clear hi
      go_enter Tryz.func19, Tryz.ntmps19
      go_wp2_with fail
      refine (H _ (hA.ext ((Ext.refl _).alloc _))).mono ?_
      rintro e w1 ⟨rfl, hx1⟩
      go_wp2
      go_ret2
      exact ⟨by rw [he.out, ← hr]; rfl, ((Ext.refl w).alloc _).trans hx1⟩
end Go.Proofs.YtjdmgpefjehkaaaGreatDoor
