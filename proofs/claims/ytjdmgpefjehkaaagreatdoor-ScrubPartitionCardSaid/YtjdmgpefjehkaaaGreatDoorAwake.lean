/- The chapter's example holds: awake. -/
import Derived.Test.YtjdmgpefjehkaaaGreatDoorExCreate
import Derived.Test.YtjdmgpefjehkaaaGreatDoorTableW
import Derived.Test.YtjdmgpefjehkaaaGreatDoorPLinesB
import Derived.Test.YtjdmgpefjehkaaaGreatDoorClean
namespace Go.Proofs.YtjdmgpefjehkaaaGreatDoor
open Go.RowKit
attribute [local go_sem] Instr.field asAgg
set_option maxRecDepth 100000

theorem eqlR (a b c d : Int) (w : World) : (binOp .eql 40 (.agg #[.int .i64 a, .int .i64 b]) (.agg #[.int .i64 c, .int .i64 d])).run Tryz.prog w = .ok (.bool (a == c && b == d)) w := by
  have hu := Tryz.underlying40
  simp [go_sem, Op.eqFields, hu, Program.fieldsOf]
  cases h : (a == c) <;> cases h2 : (b == d) <;> simp_all
theorem emptyL_zero : emptyL zeroL = true := (emptyL_iff zeroL).2 rfl
theorem emptyL_labA : emptyL labA = false := by
  cases h : emptyL labA with
  | false => rfl
  | true => have := congrArg Label.id ((emptyL_iff labA).1 h); exact absurd this (by decide)
theorem tent_labsA : tentS labsA = [⟨5, 1⟩] := by
  have h : refsOf labsA = [⟨5, 1⟩] := by
    unfold refsOf labsA
    rw [List.filter_cons_of_pos (by rw [emptyL_labA]; rfl), List.filter_cons_of_neg (by rw [emptyL_zero]; decide), List.filter_cons_of_neg (by rw [emptyL_zero]; decide)]
    rfl
  unfold tentS refsS
  rw [h]
  unfold sortR
  rw [List.mergeSort_singleton]
  decide
theorem own_labsA : ownS labsA 41 = ⟨5, 1, 9, true⟩ := by decide
theorem shared_labsA : sharedS labsA = [] := by decide +kernel
theorem scrub_labsA : scrubS 16 labsA = ⟨9, 3, [⟨5, 1⟩], [], []⟩ := by
  unfold scrubS
  rw [tent_labsA, shared_labsA]
  have h1 : cntU labsA (tt 16) (spanN 16) = 3 := by decide
  have h2 : (spanN 16 : Int) = 12 := by decide
  rw [h1, h2]
  rfl
theorem lines_len (f u : Int) (r : Ref) : (linesS ⟨f, u, [r], [], []⟩).length = 3 := rfl
theorem p_awake (w : World) (ht : Tab10 w) : Calls Tryz.prog 6 #[] w fun e w' => e = .returned (.bool true) ∧ Ext w w' := by
  have hq := eqlR
  have hu := Tryz.underlying29
  have hu4 := Tryz.underlying40
  go_enter Tryz.func6, Tryz.ntmps6
  go_wp2_with fail
  refine (p_example _).mono ?_
  rintro e w1 ⟨B, cb, rfl, hB, hx1⟩
  go_wp2_with fail
  have HT : Calls Tryz.prog 10 #[.agg #[.string ⟨#[86]⟩, .int .i64 16, .slice B 3 cb]] w1 fun e w' => ∃ A2 c2 A3 c3, e = .returned (.agg #[.int .i64 9, .int .i64 3, .slice A2 1 c2, .slice A3 0 c3, .slice none 0 0]) ∧ ScrubOk w' ⟨9, 3, [⟨5, 1⟩], [], []⟩ A2 A3 none ∧ Ext w1 w' :=
    (p_Table ⟨#[86]⟩ 16 B cb labsA (by decide) (by decide) w1 hB).mono fun e w' ⟨A2, c2, A3, c3, he, hS, hx⟩ => ⟨A2, c2, A3, c3, by rw [he, scrub_labsA, tent_labsA, shared_labsA]; rfl, by rw [scrub_labsA] at hS; exact hS, hx⟩
  refine HT.mono ?_
  clear HT
  rintro e w2 ⟨A2, c2, A3, c3, rfl, hS, hx2⟩
  have hX := Blk.new w2 29 [.int .i64 9, .int .i64 3, .slice A2 1 c2, .slice A3 0 c3, .slice none 0 0]
  have hx3 := (hx1.trans hx2).alloc (.cells #[.int .i64 9, .int .i64 3, .slice A2 1 c2, .slice A3 0 c3, .slice none 0 0] 29)
  have hS := hS.ext ((Ext.refl w2).alloc (.cells #[.int .i64 9, .int .i64 3, .slice A2 1 c2, .slice A3 0 c3, .slice none 0 0] 29))
  go_wp2_with fail
  refine (p_example _).mono ?_
  rintro e w4 ⟨B', cb', rfl, hB', hx4⟩
  have hX4 := hX.ext hx4
  have hS4 := hS.ext hx4
  have hx5 := hx3.trans hx4
  have HO : Calls Tryz.prog 20 #[.agg #[.string ⟨#[86]⟩, .int .i64 16, .slice B' 3 cb'], .int .i64 41] w4 fun e w' => e = .returned (.tuple #[.agg #[.int .i64 5, .int .i64 1], .int .i64 9, .bool true]) ∧ Ext w4 w' :=
    (p_Owner ⟨#[86]⟩ 16 B' cb' labsA 41 ⟨by decide, by decide⟩ w4 hB').mono fun e w' ⟨he, hx⟩ => ⟨by rw [he, own_labsA], hx⟩
  go_wp2_with fail
  refine HO.mono ?_
  clear HO
  rintro e w6 ⟨rfl, hx6⟩
  have hX6 := hX4.ext hx6
  have hS6 := hS4.ext hx6
  have hx7 := hx5.trans hx6
  have a0 := hX6.cell 0 rfl
  have a1 := hX6.cell 1 rfl
  have a2 := hX6.cell 2 rfl
  have a3 := hX6.cell 3 rfl
  have a4 := hX6.cell 4 rfl
  have al := hX6.lt
  go_wp2_with fail
  have hx8 := hx7.alloc (.cells #[.int .i64 5, .int .i64 1] 40)
  have hX8 := hX6.alloc (.cells #[.int .i64 5, .int .i64 1] 40)
  have hS8 := hS6.ext ((Ext.refl w6).alloc (.cells #[.int .i64 5, .int .i64 1] 40))
  refine (p_Clean 9 3 A2 A3 none 1 c2 0 c3 0 0 (by decide) (by decide) _).mono ?_
  rintro e w9 ⟨rfl, hx9⟩
  have hX9 := hX8.ext hx9
  have hS9 := hS8.ext hx9
  have hx10 := hx8.trans hx9
  have b0 := hX9.cell 0 rfl
  have b1 := hX9.cell 1 rfl
  have b2 := hX9.cell 2 rfl
  have b3 := hX9.cell 3 rfl
  have b4 := hX9.cell 4 rfl
  go_wp2_with fail
  have HL : Calls Tryz.prog 27 #[.agg #[.int .i64 9, .int .i64 3, .slice A2 1 c2, .slice A3 0 c3, .slice none 0 0]] w9 fun e w' => ∃ B cb, e = .returned (.slice B 3 cb) ∧ Ext w9 w' :=
    (p_Lines ⟨9, 3, [⟨5, 1⟩], [], []⟩ A2 A3 none c2 c3 0 (by decide) w9 hS9 (ht.ext hx10)).mono fun e w' ⟨B, cb, he, _, hx⟩ => ⟨B, cb, he, hx⟩
  refine HL.mono ?_
  clear HL
  rintro e w11 ⟨C, cc, rfl, hx11⟩
  go_wp2
  go_ret
  exact ⟨rfl, hx10.trans hx11⟩
end Go.Proofs.YtjdmgpefjehkaaaGreatDoor
