/- The example's calls, at their own inputs: ValidName("V"). -/
import Derived.Test.YtjdmgpefjehkaaaGreatDoorTab
import Derived.Test.YtjdmgpefjehkaaaGreatDoorSmall
import Derived.Test.YtjdmgpefjehkaaaGreatDoorLabEq
import Derived.Test.YtjdmgpefjehkaaaGreatDoorPLines
import Derived.Test.YtjdmgpefjehkaaaGreatDoorStay
namespace Go.Proofs.YtjdmgpefjehkaaaGreatDoor
open Go.RowKit
attribute [local go_sem] Instr.field asAgg
set_option maxRecDepth 100000

theorem r_nameV (w : World) : Calls Tryz.prog 82 #[.string ⟨#[86]⟩] w fun e w' => e = .returned (.bool true) ∧ w = w' := by
  go_enter Tryz.func82, Tryz.ntmps82
  go_wp2
  refine wp_loop_rounds 2 ?_
  rw [rounds_succ]
  go_wp2
  rw [rounds_succ]
  go_wp2
  go_ret
  exact ⟨rfl, rfl⟩

theorem lab_info : (Tryz.prog.info? 43).map (fun i => (i.zero, i.size, i.bytes)) = some (some (.agg #[.int .i64 0, .int .i64 0, .string ⟨#[]⟩, .string ⟨#[]⟩, .slice none 0 0]), 5, 72) := by kernel_rfl
def zAt : LAt := ⟨zeroL, none, 0⟩
theorem labS_zero {K : Nat → Prop} {w : World} {A : Option Addr} (n : Nat) (hn : n ≤ 1000000) (h : SlOut K w A ((List.replicate n zAt).flatMap lCells)) : LabS K w A (List.replicate n zeroL) := by
  refine ⟨⟨List.replicate n zAt, by simp [zAt], h, fun x hx => ?_⟩, fun l hl => ?_, by simp; omega⟩
  · rw [List.eq_of_mem_replicate hx]
    exact ⟨fun _ _ => Runs.nil _ _, Nat.le_refl _⟩
  · rw [List.eq_of_mem_replicate hl]
    exact ⟨⟨by decide, by decide⟩, ⟨by decide, by decide⟩, by decide, by decide⟩

theorem r_NewV (w : World) : Calls Tryz.prog 54 #[.string ⟨#[86]⟩, .int .i64 16] w fun e w' => ∃ A c, e = .returned (.tuple #[.agg #[.string ⟨#[86]⟩, .int .i64 16, .slice A 3 c], .int .i64 0]) ∧ LabS (fun b => b < w.heap.size) w' A (List.replicate 3 zeroL) ∧ Ext w w' := by
  have hu2 := Tryz.underlying24
  have hu3 := Tryz.underlying43
  go_enter Tryz.func54, Tryz.ntmps54
  go_wp2_with (first | (go_at_call 82; refine (r_nameV _).mono ?_; rintro e w' ⟨rfl, rfl⟩) | (go_at_call 23; refine (r_tt 16 _).mono ?_; rintro e w' ⟨rfl, rfl⟩))
  have htt16 : max 0 (tt 16 - 1) = 3 := by decide
  go_loopg [7] 3 (fun g i wr => ∃ k : Nat, k + g = 3 ∧ i = .int .i64 k ∧ Ext w wr ∧ Blk wr w.heap.size 24 [.string ⟨#[]⟩, .int .i64 0, .slice none 0 0] ∧ ∃ v, Blk wr (w.heap.size + 1) 24 [.string ⟨#[86]⟩, .int .i64 16, v] ∧ wr.ownsRow w.heap.size 43 5 v k ((List.replicate k zAt).flatMap lCells))
  case atStart => exact ⟨0, by omega, rfl, ((Ext.refl w).alloc _).alloc _, (Blk.new w _ [_, _, _]).alloc _, _, Blk.new_at (by simp) _ [_, _, _], World.ownsRow_nil _ _ _ _⟩
  case round =>
    obtain ⟨k, hk, rfl, hx, hR, v, hT, ho⟩ := hrel
    have hk := Lib.hid hk
    have d2 := hT.cell 2 rfl
    have z2 := hT.frozen 2
    have HS := fun w => r_slots 16 w
    rw [htt16] at HS
    rcases Nat.lt_or_ge k 3 with hlt | hge
    · have hrep : List.replicate (k + 1) zAt = List.replicate k zAt ++ [zAt] := List.replicate_succ'
      have hrep := Lib.hid hrep
      have hfar := own_far ho hT (by decide)
      have hfar2 := own_far ho hR (by decide)
      have hlow := fun q hq => (ho.lt q hq).1
      have hle := hx.le
      go_wp2_with (first | (go_at_call 83; refine (HS _).mono ?_; rintro e w' ⟨rfl, rfl⟩) | (at_builtin; refine app2 w.heap.size rfl _ _ _ 43 (.agg #[.int .i64 0, .int .i64 0, .string ⟨#[]⟩, .string ⟨#[]⟩, .slice none 0 0]) 5 72 rfl Tryz.underlying22 lab_info rfl (by omega) (by omega) v _ _ (lCells zAt) rfl (by simp [Value.oneCell', lCells]) rfl _ rfl (by simp) ho hle (by omega) ?_; intro v1 w3 oB gA; have hS3 := hT.grown gA hfar; have hR3 := hR.grown gA hfar2; have z3 := hS3.frozen 2; have y3 := hS3.cell 2 rfl; obtain ⟨A1, k1, rfl, _⟩ := own_slice oB))
      go_roundg (3 - k - 1)
      case measure => have := hk.out; omega
      case rel => exact ⟨k + 1, by omega, by go_num, (hx.own ho gA).set (by dsimp only; omega) _, hR3.far (by dsimp only; omega) _, _, hS3.set 2 _, by rw [hrep.out, List.flatMap_append]; exact own_set (by simpa using oB) (own_far oB hS3 (by decide)) _⟩
    · have hkk : k = 3 := by have := hk.out; omega
      subst hkk
      obtain ⟨A, c, rfl, _⟩ := own_slice ho
      have d0 := hT.cell 0 rfl
      have d1 := hT.cell 1 rfl
      have f0 := hR.cell 0 rfl
      have f1 := hR.cell 1 rfl
      have f2 := hR.cell 2 rfl
      have y0 := hR.frozen 0
      have y1 := hR.frozen 1
      have y2 := hR.frozen 2
      have hle := hx.le
      go_wp2_with (go_at_call 83; refine (HS _).mono ?_; rintro e w' ⟨rfl, rfl⟩)
      have hF1 := hR.set 0 (.string ⟨#[86]⟩)
      have hF2 := hF1.set 1 (.int .i64 16)
      have hF3 := hF2.set 2 (.slice A 3 c)
      have g0 := hF3.cell 0 rfl
      have g1 := hF3.cell 1 rfl
      have g2 := hF3.cell 2 rfl
      have o2 := own_far ho hR (by decide)
      exact bodyPost_ret (v := .tuple #[.agg #[.string ⟨#[86]⟩, .int .i64 16, .slice A 3 c], .int .i64 0]) (by simp [results, Tryz.results54, go_sem, g0, g1, g2]) rfl ⟨A, c, rfl, labS_zero 3 (by decide) (SlOut.own (own_set (own_set (own_set ho o2 _) o2 _) o2 _) fun b h => Nat.not_lt.2 h), by repeat (first | exact hx | refine Ext.set ?_ (by dsimp only; omega) _)⟩
end Go.Proofs.YtjdmgpefjehkaaaGreatDoor
