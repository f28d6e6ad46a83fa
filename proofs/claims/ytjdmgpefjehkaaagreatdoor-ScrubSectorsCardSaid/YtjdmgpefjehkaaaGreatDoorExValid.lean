/- dasdref08.Valid at the example's empty table. -/
import Derived.Test.YtjdmgpefjehkaaaGreatDoorExNew
import Derived.Test.YtjdmgpefjehkaaaGreatDoorUsed
import Derived.Deep.QuietTactic
import Derived.BigQuiet
namespace Go.Proofs.YtjdmgpefjehkaaaGreatDoor
open Go.RowKit
attribute [local go_sem] Instr.field asAgg
set_option maxRecDepth 100000

theorem quietC {P : Program} {f : FuncId} {args : Array Value} {w : World} {n : Nat} {v : Value} (h : Calls P f args (w.drewN n) fun e w' => e = .returned v ∧ w.drewN n = w') : Calls P f args (w.drewN n) fun e w'' => e = .returned v ∧ ∃ m, w'' = w.drewN m :=
  h.mono fun _ _ ⟨he, hm⟩ => ⟨he, n, hm.symm⟩
theorem r_empty0 (B : Option Addr) (c : Nat) (w : World) : Calls Tryz.prog 60 #[.agg #[.int .i64 0, .int .i64 0, .string ⟨#[]⟩, .string ⟨#[]⟩, .slice B 0 c]] w fun e w' => e = .returned (.bool true) ∧ Ext w w' :=
  (r_empty zeroL B c w (Runs.nil _ _)).mono fun e w' ⟨he, hx⟩ => ⟨by rw [he, (emptyL_iff zeroL).2 rfl], hx⟩
theorem zero_at {w : World} {A : Option Addr} {n : Nat} (h : Labels w A (List.replicate n zeroL)) {i : Nat} (hi : i < n) :
    ∃ b o B c, A = some ⟨b, o, none⟩ ∧ w.cell? ⟨b, o + i * 5, none⟩ = some (.int .i64 0) ∧ w.cell? ⟨b, o + i * 5 + 1, none⟩ = some (.int .i64 0) ∧
      w.cell? ⟨b, o + i * 5 + 2, none⟩ = some (.string ⟨#[]⟩) ∧ w.cell? ⟨b, o + i * 5 + 3, none⟩ = some (.string ⟨#[]⟩) ∧ w.cell? ⟨b, o + i * 5 + 4, none⟩ = some (.slice B 0 c) := by
  obtain ⟨b, o, B, c, h1, h2, h3, h4, h5, h6, _, _⟩ := h.at_ (i := i) (by simpa using hi)
  rw [List.getElem_replicate] at h2 h3 h4 h5 h6
  exact ⟨b, o, B, c, h1, h2, h3, h4, h5, h6⟩
theorem r_tt16 (w : World) : Calls Tryz.prog 23 #[.int .i64 16] w fun e w' => e = .returned (.int .i64 4) ∧ w = w' := (r_tt 16 w).mono fun _ _ ⟨h, k⟩ => ⟨h, k⟩
theorem r_slots16 (w : World) : Calls Tryz.prog 83 #[.int .i64 16] w fun e w' => e = .returned (.int .i64 3) ∧ w = w' := (r_slots 16 w).mono fun _ _ ⟨h, k⟩ => ⟨h, k⟩
theorem allE_zero (n : Nat) : allE (List.replicate n zeroL) = [] := by
  unfold allE
  rw [List.flatMap_eq_nil_iff]
  intro x hx
  rw [List.eq_of_mem_replicate hx]; rfl
theorem r_used0 (A : Option Addr) (c : Nat) (w : World) (hA : Labels w A (List.replicate 3 zeroL)) :
    Calls Tryz.prog 107 #[.agg #[.string ⟨#[86]⟩, .int .i64 16, .slice A 3 c]] w fun e w' => ∃ B cb, e = .returned (.slice B 0 cb) ∧ Ext w w' := by
  refine (r_used ⟨#[86]⟩ 16 A c (List.replicate 3 zeroL) (fun l hl => by rw [List.eq_of_mem_replicate hl]; decide) (by simp) w hA).mono ?_
  rintro e w' ⟨B, cb, rfl, _, hx⟩
  exact ⟨B, cb, by rw [allE_zero]; rfl, hx⟩
theorem r_disj0 (B : Option Addr) (c : Nat) (w : World) : Calls Tryz.prog 106 #[.slice B 0 c] w fun e w' => e = .returned (.bool true) ∧ Ext w w' :=
  (r_disjoint B c [] w (by simp) (Runs.nil _ _)).mono fun e w' ⟨he, hx⟩ => ⟨by rw [he]; simp [seq], hx⟩

theorem r_Valid0 (A : Option Addr) (c : Nat) (w : World) (hA : Labels w A (List.replicate 3 zeroL)) :
    Calls Tryz.prog 84 #[.agg #[.string ⟨#[86]⟩, .int .i64 16, .slice A 3 c]] w fun e w' => e = .returned (.bool true) ∧ Ext w w' := by
  have hu2 := Tryz.underlying24
  have hu3 := Tryz.underlying43
  go_enter Tryz.func84, Tryz.ntmps84
  go_wp2
  go_quiet ((first | (go_at_call 82; exact quietC (r_nameV _)) | (go_at_call 23; exact quietC (r_tt16 _)) | (go_at_call 83; exact quietC (r_slots16 _))))
  go_wp2
  go_loopg [3] 3 (fun g i wr => ∃ k : Nat, k + g = 3 ∧ i = .int .i64 k ∧ Ext w wr ∧ Blk wr w.heap.size 24 [.string ⟨#[86]⟩, .int .i64 16, .slice A 3 c])
  case atStart => exact ⟨0, by omega, rfl, ((Ext.refl w).alloc _).drewN _, (Blk.new w _ [_, _, _]).drewN _⟩
  case round =>
    obtain ⟨k, hk, rfl, hx, hT⟩ := hrel
    have hk := Lib.hid hk
    have d0 := hT.cell 0 rfl
    have d1 := hT.cell 1 rfl
    have d2 := hT.cell 2 rfl
    obtain ⟨wo, rfl⟩ : ∃ wo : World, wo = wr := ⟨_, rfl⟩
    rcases Nat.lt_or_ge k 3 with hlt | hge
    · obtain ⟨b, o, B, cB, rfl, a0, a1, a2, a3, a4⟩ := zero_at hA hlt
      have h0 := hx.cell a0
      have h1 := hx.cell a1
      have h2 := hx.cell a2
      have h3 := hx.cell a3
      have h4 := hx.cell a4
      have hle := hx.le
      go_wp2_with fail
      refine (r_empty0 B cB _).mono ?_
      rintro e w1 ⟨rfl, hx1⟩
      have hG := (Blk.new wo 43 [.int .i64 0, .int .i64 0, .string ⟨#[]⟩, .string ⟨#[]⟩, .slice B 0 cB]).ext hx1
      have hT1 := (hT.alloc _).ext hx1
      have hx2 := (hx.alloc _).trans hx1
      go_wp2
      go_loopg [5] k (fun g i wr => ∃ j : Nat, j + g = k ∧ i = .int .i64 j ∧ Ext w wr ∧ Blk wr w.heap.size 24 [.string ⟨#[86]⟩, .int .i64 16, .slice (some ⟨b, o, none⟩) 3 c] ∧ Blk wr wo.heap.size 43 [.int .i64 0, .int .i64 0, .string ⟨#[]⟩, .string ⟨#[]⟩, .slice B 0 cB])
      case atStart => exact ⟨0, by omega, rfl, hx2, hT1, hG⟩
      case round =>
        obtain ⟨j, hj, rfl, hx3, hT3, hG3⟩ := hrel
        have hj := Lib.hid hj
        have t2 := hT3.cell 2 rfl
        have g0 := hG3.cell 0 rfl
        have g1 := hG3.cell 1 rfl
        have g2 := hG3.cell 2 rfl
        have g3 := hG3.cell 3 rfl
        have g4 := hG3.cell 4 rfl
        have gl := hG3.lt
        rcases Nat.lt_or_ge j k with hjl | hjg
        · obtain ⟨b2, o2, B2, cB2, he, q0, q1, q2, q3, q4⟩ := zero_at hA (show j < 3 by omega)
          cases he
          have m0 := hx3.cell q0
          have m1 := hx3.cell q1
          have m2 := hx3.cell q2
          have m3 := hx3.cell q3
          have m4 := hx3.cell q4
          go_wp2_with fail
          refine (r_empty0 B cB _).mono ?_
          rintro e w4 ⟨rfl, hx4⟩
          have hT4 := (hT3.alloc _).ext hx4
          have hG4 := (hG3.alloc _).ext hx4
          have hx5 := (hx3.alloc _).trans hx4
          go_wp2
          go_roundg (k - j - 1)
          case measure => have := hj.out; omega
          case rel => exact ⟨j + 1, by omega, by go_num, hx5, hT4, hG4⟩
        · go_wp2
          go_roundg (3 - k - 1)
          case measure => have := hk.out; omega
          case rel => exact ⟨k + 1, by omega, by go_num, hx3, hT3⟩
    · go_wp2_with fail
      refine (r_used0 A c _ (hA.ext hx)).mono ?_
      rintro e w1 ⟨B, cb, rfl, hx1⟩
      go_wp2_with fail
      refine (r_disj0 B cb _).mono ?_
      rintro e w2 ⟨rfl, hx2⟩
      go_wp2
      go_ret
      exact ⟨rfl, (hx.trans hx1).trans hx2⟩
end Go.Proofs.YtjdmgpefjehkaaaGreatDoor
