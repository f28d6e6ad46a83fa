/- The bounds of the statements: Few of a label, a table, a result. -/
import Derived.Test.YtjdmgpefjehkaaaGreatDoorLabEq
import Derived.Test.YtjdmgpefjehkaaaGreatDoorStrs
namespace Go.Proofs.YtjdmgpefjehkaaaGreatDoor
open Go.RowKit
attribute [local go_sem] Instr.field asAgg
set_option maxRecDepth 100000

def fewX (x : Scrub) : Bool := decide ((x.tent.length : Int) ≤ 30) && (decide ((x.shared.length : Int) ≤ 130) && decide ((x.bad.length : Int) ≤ 100))
theorem r_few15 (x : Scrub) (A2 A3 A4 : Option Addr) (c2 c3 c4 : Nat) (w : World) :
    Calls Tryz.prog 8 #[.agg #[.int .i64 x.free, .int .i64 x.used, .slice A2 x.tent.length c2, .slice A3 x.shared.length c3, .slice A4 x.bad.length c4]] w fun e w' => e = .returned (.bool (fewX x)) ∧ Ext w w' := by
  have hx := (Ext.refl w).alloc (.cells #[.int .i64 x.free, .int .i64 x.used, .slice A2 x.tent.length c2, .slice A3 x.shared.length c3, .slice A4 x.bad.length c4] 29)
  unfold fewX
  by_cases h1 : (x.tent.length : Int) ≤ 30
  · by_cases h2 : (x.shared.length : Int) ≤ 130
    · rw [decide_eq_true h1, decide_eq_true h2]
      go_enter Tryz.func8, Tryz.ntmps8
      go_wp2
      go_ret
      exact ⟨rfl, hx⟩
    · go_enter Tryz.func8, Tryz.ntmps8
      go_wp2
      go_ret
      exact ⟨by simp <;> omega, hx⟩
  · go_enter Tryz.func8, Tryz.ntmps8
    go_wp2
    go_ret
    exact ⟨by simp <;> omega, hx⟩

def fewL (l : Label) : Bool := decide ((l.name.size : Int) ≤ 100) && (decide ((l.note.size : Int) ≤ 500) && decide ((l.ext.length : Int) ≤ 30))
theorem r_few07 (l : Label) (A : Option Addr) (c : Nat) (w : World) :
    Calls Tryz.prog 28 #[.agg #[.int .i64 l.id, .int .i64 l.unit, .string l.name, .string l.note, .slice A l.ext.length c]] w fun e w' => e = .returned (.bool (fewL l)) ∧ Ext w w' := by
  have hx := (Ext.refl w).alloc (.cells #[.int .i64 l.id, .int .i64 l.unit, .string l.name, .string l.note, .slice A l.ext.length c] 43)
  unfold fewL
  by_cases h1 : (l.name.size : Int) ≤ 100
  · by_cases h2 : (l.note.size : Int) ≤ 500
    · rw [decide_eq_true h1, decide_eq_true h2]
      go_enter Tryz.func28, Tryz.ntmps28
      go_wp2
      go_ret
      exact ⟨rfl, hx⟩
    · go_enter Tryz.func28, Tryz.ntmps28
      go_wp2
      go_ret
      exact ⟨by simp <;> omega, hx⟩
  · go_enter Tryz.func28, Tryz.ntmps28
    go_wp2
    go_ret
    exact ⟨by simp <;> omega, hx⟩

def fewT (nm : ByteArray) (ls : List Label) : Bool := ls.all fewL && (decide ((nm.size : Int) ≤ 100) && decide ((ls.length : Int) ≤ 40))
theorem r_few08 (nm : ByteArray) (tr : Int) (A : Option Addr) (c : Nat) (ls : List Label) (w : World) (hA : Labels w A ls) :
    Calls Tryz.prog 7 #[.agg #[.string nm, .int .i64 tr, .slice A ls.length c]] w fun e w' => e = .returned (.bool (fewT nm ls)) ∧ Ext w w' := by
  have hl := hA.len
  unfold fewT
  go_enter Tryz.func7, Tryz.ntmps7
  go_wp2
  go_loopg [3] ls.length (fun g i wr => ∃ k : Nat, k + g = ls.length ∧ i = .int .i64 k ∧ Hid (∀ j (h : j < ls.length), j < k → fewL ls[j] = true) ∧ Blk wr w.heap.size 24 [.string nm, .int .i64 tr, .slice A ls.length c] ∧ Ext w wr)
  case atStart => exact ⟨0, by omega, rfl, fun j _ h => by omega, Blk.new w _ [_, _, _], (Ext.refl w).alloc _⟩
  case round =>
    obtain ⟨k, hk, rfl, hn, hT, hx⟩ := hrel
    have hk := Lib.hid hk
    have d0 := hT.cell 0 rfl
    have d2 := hT.cell 2 rfl
    rcases Nat.lt_or_ge k ls.length with hlt | hge
    · obtain ⟨b, o, B, cb, rfl, a0, a1, a2, a3, a4, hB, _⟩ := (hA.ext hx).at_ hlt
      have HC := fun w => r_few07 ls[k] B cb w
      cases hf : fewL ls[k] with
      | false =>
        rw [hf] at HC
        have hf := Lib.hid hf
        go_wp2_with (go_at_call 28; refine (HC _).mono ?_; clear HC; rintro e w1 ⟨rfl, hx1⟩)
        go_ret
        have : ls.all fewL = false := by
          rw [List.all_eq_false]
          exact ⟨_, List.getElem_mem hlt, by rw [hf.out]; simp⟩
        exact ⟨by rw [this]; rfl, hx.trans hx1⟩
      | true =>
        rw [hf] at HC
        have hf := Lib.hid hf
        go_wp2_with (go_at_call 28; refine (HC _).mono ?_; clear HC; rintro e w1 ⟨rfl, hx1⟩)
        go_roundg (ls.length - k - 1)
        case measure => have := hk.out; omega
        case rel => exact ⟨k + 1, by omega, by go_num, all_snoc (P := fun l => fewL l = true) hn.out hlt hf.out, hT.ext hx1, hx.trans hx1⟩
    · have hall : ls.all fewL = true := by
        rw [List.all_eq_true]
        intro x hx
        obtain ⟨j, hj, rfl⟩ := List.getElem_of_mem hx
        exact hn.out j hj (by omega)
      by_cases h1 : (nm.size : Int) ≤ 100
      · go_wp2
        go_ret
        exact ⟨by rw [hall]; simp <;> omega, hx⟩
      · go_wp2
        go_ret
        exact ⟨by simp; omega, hx⟩
end Go.Proofs.YtjdmgpefjehkaaaGreatDoor
