/- The comparison of references: cmp.Or of two numbers, contents.Refs$1. -/
import Derived.Test.YtjdmgpefjehkaaaGreatDoorProg
import Derived.Test.YtjdmgpefjehkaaaGreatDoorBase
import Derived.Deep.RegionHeld3
import Derived.StillTailTactics
import Derived.Deep.RegionWith
namespace Go.Proofs.YtjdmgpefjehkaaaGreatDoor
open Go.RowKit
attribute [local go_sem] Instr.field asAgg
set_option maxRecDepth 100000

structure Ref where
  id : Int
  unit : Int
deriving DecidableEq
def cmpI (x y : Int) : Int := if x < y then -1 else if y < x then 1 else 0
def cmpR (a b : Ref) : Int := if cmpI a.id b.id = 0 then cmpI a.unit b.unit else cmpI a.id b.id

theorem p_cmp (x y : Int) (w : World) : Calls Tryz.prog 47 #[.int .i64 x, .int .i64 y] w fun e w' => e = .returned (.int .i64 (cmpI x y)) ∧ w' = w := by
  rcases Int.lt_trichotomy x y with h | h | h
  · rw [show cmpI x y = -1 from if_pos h]
    go_enter Tryz.func47, Tryz.ntmps47
    go_wp2
    all_goals (go_ret; exact ⟨rfl, rfl⟩)
  · rw [show cmpI x y = 0 by unfold cmpI; rw [if_neg (by omega), if_neg (by omega)]]
    have h1 : x ≤ y := by omega
    have h2 : y ≤ x := by omega
    clear h
    go_enter Tryz.func47, Tryz.ntmps47
    go_wp2
    all_goals (go_ret; exact ⟨rfl, rfl⟩)
  · rw [show cmpI x y = 1 by unfold cmpI; rw [if_neg (by omega), if_pos h]]
    go_enter Tryz.func47, Tryz.ntmps47
    go_wp2
    all_goals (go_ret; exact ⟨rfl, rfl⟩)

theorem p_or (x y : Int) (g : Nat) (w : World) (h0 : w.cell? ⟨g, 0, none⟩ = some (.int .i64 x)) (h1 : w.cell? ⟨g, 1, none⟩ = some (.int .i64 y)) :
    Calls Tryz.prog 46 #[.slice (some ⟨g, 0, none⟩) 2 2] w fun e w' => e = .returned (.int .i64 (if x = 0 then y else x)) ∧ w = w' := by
  by_cases hx : x = 0
  · subst hx
    by_cases hy : y = 0
    · subst hy
      go_enter Tryz.func46, Tryz.ntmps46
      go_wp2
      refine wp_loop_rounds 3 ?_
      rw [rounds_succ]
      go_wp2
      rw [rounds_succ]
      go_wp2
      rw [rounds_succ]
      go_wp2
      go_ret
      exact ⟨by simp, rfl⟩
    · have hq : (y != 0) = true := by simpa using hy
      have hq2 : (y == 0) = false := by simpa using hy
      have hy := Lib.hid hy
      go_enter Tryz.func46, Tryz.ntmps46
      go_wp2
      refine wp_loop_rounds 3 ?_
      rw [rounds_succ]
      go_wp2
      rw [rounds_succ]
      go_wp2
      go_ret
      exact ⟨by simp, rfl⟩
  · have hq : (x != 0) = true := by simpa using hx
    have hq2 : (x == 0) = false := by simpa using hx
    rw [if_neg hx]
    have hx := Lib.hid hx
    go_enter Tryz.func46, Tryz.ntmps46
    go_wp2
    refine wp_loop_rounds 3 ?_
    rw [rounds_succ]
    go_wp2
    go_ret
    exact ⟨rfl, rfl⟩

theorem p_cmpR (a b : Ref) (w : World) :
    Calls Tryz.prog 45 #[.agg #[.int .i64 a.id, .int .i64 a.unit], .agg #[.int .i64 b.id, .int .i64 b.unit]] w fun e w' => e = .returned (.int .i64 (cmpR a b)) ∧
      w' = (((w.alloc (.cells #[.int .i64 a.id, .int .i64 a.unit] 40)).alloc (.cells #[.int .i64 b.id, .int .i64 b.unit] 40)).alloc (.cells #[.int .i64 (cmpI a.id b.id), .int .i64 (cmpI a.unit b.unit)] 3)).drew := by
  have HO := fun (w : World) h0 h1 => (p_or (cmpI a.id b.id) (cmpI a.unit b.unit) (w.heap.size + 1 + 1) ((((w.alloc (.cells #[.int .i64 a.id, .int .i64 a.unit] 40)).alloc (.cells #[.int .i64 b.id, .int .i64 b.unit] 40)).alloc (.cells #[.int .i64 (cmpI a.id b.id), .int .i64 (cmpI a.unit b.unit)] 3)).drew) h0 h1)
  rw [show (if cmpI a.id b.id = 0 then cmpI a.unit b.unit else cmpI a.id b.id) = cmpR a b from rfl] at HO
  generalize cmpR a b = r at HO ⊢
  go_enter Tryz.func45, Tryz.ntmps45
  go_wp2
  refine wp_region_still_tail 10 (by kernel_rfl) (by kernel_rfl) ?_
  simp only [List.take_succ_cons, List.take_zero, List.drop_succ_cons, List.drop_zero]
  change wpStill _ _ (World.drew _) _ _ _
  repeat still_step
  still_call (p_cmp _ _ _)
  repeat still_step
  still_call (p_cmp _ _ _)
  repeat still_step
  refine wpStill_nil ?_
  change wpList _ _ _ _ _ (World.drew _)
  go_wp2_with fail
  refine (HO w ((Blk.new_at (by simp) 3 [_, _]).drew.cell 0 rfl) ((Blk.new_at (by simp) 3 [_, _]).drew.cell 1 rfl)).mono ?_
  clear HO
  rintro e w1 ⟨rfl, rfl⟩
  go_wp2
  go_ret
  exact ⟨rfl, rfl⟩
end Go.Proofs.YtjdmgpefjehkaaaGreatDoor
