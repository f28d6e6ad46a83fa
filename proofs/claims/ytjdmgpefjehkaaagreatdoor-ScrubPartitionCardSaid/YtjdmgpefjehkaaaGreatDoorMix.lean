/- The closure of extent.mix: 1 for true, 0 for false. The contract of extent.mix: a set from two sets by a table. -/
import Derived.Test.YtjdmgpefjehkaaaGreatDoorProg
import Derived.Test.YtjdmgpefjehkaaaGreatDoorBase
import Derived.Test.YtjdmgpefjehkaaaGreatDoorVSet
import Derived.Laws.EntriesVeiled
import Derived.Deep.RegionHeld3
namespace Go.Proofs.YtjdmgpefjehkaaaGreatDoor
open Go.RowKit
attribute [local go_sem] Instr.field asAgg
set_option maxRecDepth 100000

theorem p_bit (b : Bool) (w : World) : Calls Tryz.prog 118 #[.bool b] w fun e w' => e = .returned (.int .i64 (if b then 1 else 0)) ∧ w = w' := by
  cases b
  all_goals
    go_enter Tryz.func118, Tryz.ntmps118
    go_wp2
    go_ret
    exact ⟨rfl, rfl⟩
end Go.Proofs.YtjdmgpefjehkaaaGreatDoor
namespace Go.Proofs.YtjdmgpefjehkaaaGreatDoor
open Go.RowKit
attribute [local go_sem] Instr.field asAgg
set_option maxRecDepth 100000

def tabF (f00 f01 f10 f11 a b : Bool) : Bool := if a = true then (if b = true then f11 else f10) else (if b = true then f01 else f00)
def mixT (f : Bool → Bool → Bool) (xs ys : List Bool) (k : Nat) : List Bool := (List.range 128).map fun j : Nat => decide (j < k) && f (xs.getD j false) (ys.getD j false)
theorem mixT_len (f : Bool → Bool → Bool) (xs ys : List Bool) (k : Nat) : (mixT f xs ys k).length = 128 := by simp [mixT]
theorem mixT_zero (f : Bool → Bool → Bool) (xs ys : List Bool) : mixT f xs ys 0 = ofT [] := by
  unfold mixT ofT
  exact List.map_congr_left fun j _ => by simp [ixT, seq]
theorem mixT_step (f : Bool → Bool → Bool) (xs ys : List Bool) (k : Nat) : (boolCells (mixT f xs ys k)).set k (.bool (f (xs.getD k false) (ys.getD k false))) = boolCells (mixT f xs ys (k + 1)) := by
  unfold boolCells mixT
  apply List.ext_getElem
  · simp
  · intro i h1 h2
    rw [List.getElem_set]
    split
    · rename_i h3
      subst h3
      simp
    · rename_i h3
      have e2 : decide (i < k) = decide (i < k + 1) := decide_eq_decide.mpr ⟨fun _ => by omega, fun _ => by omega⟩
      simp only [List.getElem_map, List.getElem_range, e2]
theorem mixT_all (f : Bool → Bool → Bool) (ra rb : List Run) : normTo (fun i => (mixT f (ofT ra) (ofT rb) 128).getD i false) 128 = normTo (fun i : Nat => f (ixT ra i).isSome (ixT rb i).isSome) 128 :=
  normTo_congr 128 fun i hi => by simp [mixT, ofT, hi]
theorem p_bit0 (w : World) : Calls Tryz.prog 118 #[.bool false] w fun e w' => e = .returned (.int .i64 0) ∧ w = w' := p_bit false w
theorem p_bit1 (w : World) : Calls Tryz.prog 118 #[.bool true] w fun e w' => e = .returned (.int .i64 1) ∧ w = w' := p_bit true w
theorem run_bit : ∀ (w : World), (Instr.makeFunc (.func 118) #[] #[]).run Tryz.prog w = .ok (.func (.func 118) #[] #[]) w := fun _ => rfl

set_option maxHeartbeats 4000000 in
theorem p_mix (A : Option Addr) (ca : Nat) (ra : List Run) (B : Option Addr) (cb : Nat) (rb : List Run) (f00 f01 f10 f11 : Bool) (w : World) (hA : Runs w A ra) (hB : Runs w B rb) :
    Calls Tryz.prog 104 #[.slice A ra.length ca, .slice B rb.length cb, .agg #[.bool f00, .bool f01, .bool f10, .bool f11]] w fun e w' =>
      ∃ v, e = .returned v ∧ OwnRuns w w' v (normTo (fun i : Nat => tabF f00 f01 f10 f11 (ixT ra i).isSome (ixT rb i).isSome) 128) ∧ Ext w w' := by
  have hus := Tryz.underlying112
  have hu2 := Tryz.underlying127
  have hu3 := Tryz.underlying128
  have hxA := (Ext.refl w).alloc (.cells #[.bool f00, .bool f01, .bool f10, .bool f11] 128)
  have hTA := Blk.new w 128 [.bool f00, .bool f01, .bool f10, .bool f11]
  go_enter Tryz.func104, Tryz.ntmps104
  go_wp2_with fail
  refine (p_of A ca ra _ (hA.ext hxA)).mono ?_
  rintro e w1 ⟨rfl, e1⟩
  have hx1 := hxA.trans e1
  have hT1 := hTA.ext e1
  clear hxA hTA e1
  go_wp2_with fail
  refine (p_of B cb rb _ (hB.ext hx1)).mono ?_
  rintro e w2 ⟨rfl, e2⟩
  have hx2 := hx1.trans e2
  have hT2 := hT1.ext e2
  clear hx1 hT1 e2
  have g1 := Lib.hid (set_size (ofT ra) (ofT_len ra))
  have g2 := Lib.hid (set_one (ofT ra))
  have g3 := Lib.hid (cells_size (ofT ra) (ofT_len ra))
  have g4 := Lib.hid (set_size (ofT rb) (ofT_len rb))
  have g5 := Lib.hid (set_one (ofT rb))
  have g6 := Lib.hid (cells_size (ofT rb) (ofT_len rb))
  obtain ⟨wa, hwa⟩ : ∃ x, x = (w2.alloc (.cells Tryz.zeroCells112 112)).alloc (.cells Tryz.zeroCells112 112) := ⟨_, rfl⟩
  have hN1 : wa.heap[w2.heap.size]? = some (.cells Tryz.zeroCells112 112) := by subst hwa; exact (((Ext.refl (w2.alloc (.cells Tryz.zeroCells112 112))).alloc (.cells Tryz.zeroCells112 112)).block w2.heap.size (by simp)).trans (heap_alloc_new w2 _)
  have hN2 : wa.heap[w2.heap.size + 1]? = some (.cells Tryz.zeroCells112 112) := by
    subst hwa
    have := heap_alloc_new (w2.alloc (.cells Tryz.zeroCells112 112)) (.cells Tryz.zeroCells112 112)
    simpa using this
  have hN3 : (wa.setRow w2.heap.size (boolCells (ofT ra)).toArray).heap[w2.heap.size + 1]? = some (.cells Tryz.zeroCells112 112) := (setRow_other _ _ _ _ (by omega)).trans hN2
  have hxa : Ext w2 wa := by subst hwa; exact ((Ext.refl _).alloc _).alloc _
  go_wp2_with (first | (refine wpList_store_row rfl 112 (.tmp 7) (.tmp 13) rfl w2.heap.size (boolCells (ofT ra)).toArray rfl rfl 112 Tryz.zeroCells112 (hwa ▸ hN1) g1.out g3.out g2.out ?_) | (refine wpList_store_row rfl 112 (.tmp 8) (.tmp 15) rfl (w2.heap.size + 1) (boolCells (ofT rb)).toArray rfl rfl 112 Tryz.zeroCells112 (hwa ▸ hN3) g4.out g6.out g5.out ?_))
  have hz : Tryz.zeroCells112 = (boolCells (ofT [])).toArray := by kernel_rfl
  obtain ⟨wb, hwb⟩ : ∃ x, x = (wa.setRow w2.heap.size (boolCells (ofT ra)).toArray).setRow (w2.heap.size + 1) (boolCells (ofT rb)).toArray := ⟨_, rfl⟩
  have hXb : Blk wb w2.heap.size 112 (boolCells (ofT ra)) := by
    subst hwb
    exact (setRow_other _ _ _ _ (by omega)).trans (setRow_heap _ _ _ _ _ _ hN1)
  have hYb : Blk wb (w2.heap.size + 1) 112 (boolCells (ofT rb)) := by
    subst hwb
    exact setRow_heap _ _ _ _ _ _ hN3
  have hxb : Ext w2 wb := by
    subst hwb
    exact (hxa.setRow (Nat.le_refl _) _).setRow (by omega) _
  have hsz : wb.heap.size = w2.heap.size + 1 + 1 := by
    subst hwb hwa
    simp [World.setRow]
  have hTb := hT2.ext hxb
  have hxB := hx2.trans hxb
  have hSc := Blk.new_at (g := w2.heap.size + 1 + 1) hsz 112 (boolCells (ofT []))
  have hTc := hTb.alloc (.cells (boolCells (ofT [])).toArray 112)
  have hXc := hXb.alloc (.cells (boolCells (ofT [])).toArray 112)
  have hYc := hYb.alloc (.cells (boolCells (ofT [])).toArray 112)
  have hxC := hxB.alloc (.cells (boolCells (ofT [])).toArray 112)
  rw [← hz] at hSc hTc hXc hYc hxC
  have hlt2 := hT2.lt
  rw [hwb, hwa] at hSc hTc hXc hYc hxC
  clear hN1 hN2 hN3 hxa hXb hYb hxb hsz hTb hxB hz g1 g2 g3 g4 g5 g6 hT2
  clear hwb
  clear wb
  clear hwa
  clear wa
  generalize w2.heap.size = xb at *
  go_loopg [16] 128 (fun g i wr => ∃ k : Nat, k + g = 128 ∧ i = .int .i64 k ∧ Blk wr (xb + 1 + 1) 112 (boolCells (mixT (tabF f00 f01 f10 f11) (ofT ra) (ofT rb) k)) ∧ Blk wr xb 112 (boolCells (ofT ra)) ∧ Blk wr (xb + 1) 112 (boolCells (ofT rb)) ∧ Blk wr w.heap.size 128 [.bool f00, .bool f01, .bool f10, .bool f11] ∧ Ext w wr)
  case atStart => exact ⟨0, by omega, rfl, by rw [mixT_zero]; exact hSc, hXc, hYc, hTc, hxC⟩
  case round =>
    clear hSc hXc hYc hTc hxC
    obtain ⟨k, hk, rfl, hS, hX, hY, hT, hx⟩ := hrel
    have hk := Lib.hid hk
    have n1 : xb ≠ xb + 1 + 1 := by omega
    have n2 : xb + 1 + 1 ≠ xb := by omega
    have n3 : w.heap.size ≠ xb + 1 + 1 := by have := hx2.le; omega
    have n4 : xb + 1 + 1 ≠ w.heap.size := by have := hx2.le; omega
    have t0 := hT.cell 0 rfl
    have t1 := hT.cell 1 rfl
    have t2 := hT.cell 2 rfl
    have t3 := hT.cell 3 rfl
    rcases Nat.lt_or_ge k 128 with hlt | hge
    · have x1 := set_at hX k (by rw [ofT_len]; exact hlt)
      have y1 := set_at hY k (by rw [ofT_len]; exact hlt)
      have s1 := set_at hS k (by rw [mixT_len]; exact hlt)
      have z1 := hS.frozen k
      have hst := Lib.hid (mixT_step (tabF f00 f01 f10 f11) (ofT ra) (ofT rb) k)
      cases hp : (ofT ra).getD k false <;> cases hq : (ofT rb).getD k false
      · rw [hp] at x1
        rw [hq] at y1
        have hp := Lib.hid hp
        have hq := Lib.hid hq
        go_wp2_with fail
        go_region_held3 (fun w' => w'.cell? ⟨xb, k, none⟩ = some (.bool false) ∧ w'.cell? ⟨xb + 1, k, none⟩ = some (.bool false) ∧ w'.cell? ⟨w.heap.size, 0, none⟩ = some (.bool f00) ∧ w'.cell? ⟨w.heap.size, 1, none⟩ = some (.bool f01) ∧ w'.cell? ⟨w.heap.size, 2, none⟩ = some (.bool f10) ∧ w'.cell? ⟨w.heap.size, 3, none⟩ = some (.bool f11)) (first | go_keep) (first | (refine (p_bit0 _).mono ?_; rintro e w7 ⟨rfl, rfl⟩) | (refine (p_bit1 _).mono ?_; rintro e w7 ⟨rfl, rfl⟩))
        go_wp2
        go_roundg (128 - k - 1)
        case measure => have := hk.out; omega
        case rel =>
          refine ⟨k + 1, by omega, by go_num, ?_, hX.drew.far (by dsimp only; omega) _, hY.drew.far (by dsimp only; omega) _, hT.drew.far (by dsimp only; omega) _, hx.drew.set (by dsimp only; omega) _⟩
          have := hS.drew.set k (.bool f00)
          rw [← hst.out, hp.out, hq.out]
          exact this
      · rw [hp] at x1
        rw [hq] at y1
        have hp := Lib.hid hp
        have hq := Lib.hid hq
        go_wp2_with fail
        go_region_held3 (fun w' => w'.cell? ⟨xb, k, none⟩ = some (.bool false) ∧ w'.cell? ⟨xb + 1, k, none⟩ = some (.bool true) ∧ w'.cell? ⟨w.heap.size, 0, none⟩ = some (.bool f00) ∧ w'.cell? ⟨w.heap.size, 1, none⟩ = some (.bool f01) ∧ w'.cell? ⟨w.heap.size, 2, none⟩ = some (.bool f10) ∧ w'.cell? ⟨w.heap.size, 3, none⟩ = some (.bool f11)) (first | go_keep) (first | (refine (p_bit0 _).mono ?_; rintro e w7 ⟨rfl, rfl⟩) | (refine (p_bit1 _).mono ?_; rintro e w7 ⟨rfl, rfl⟩))
        go_wp2
        go_roundg (128 - k - 1)
        case measure => have := hk.out; omega
        case rel =>
          refine ⟨k + 1, by omega, by go_num, ?_, hX.drew.far (by dsimp only; omega) _, hY.drew.far (by dsimp only; omega) _, hT.drew.far (by dsimp only; omega) _, hx.drew.set (by dsimp only; omega) _⟩
          have := hS.drew.set k (.bool f01)
          rw [← hst.out, hp.out, hq.out]
          exact this
      · rw [hp] at x1
        rw [hq] at y1
        have hp := Lib.hid hp
        have hq := Lib.hid hq
        go_wp2_with fail
        go_region_held3 (fun w' => w'.cell? ⟨xb, k, none⟩ = some (.bool true) ∧ w'.cell? ⟨xb + 1, k, none⟩ = some (.bool false) ∧ w'.cell? ⟨w.heap.size, 0, none⟩ = some (.bool f00) ∧ w'.cell? ⟨w.heap.size, 1, none⟩ = some (.bool f01) ∧ w'.cell? ⟨w.heap.size, 2, none⟩ = some (.bool f10) ∧ w'.cell? ⟨w.heap.size, 3, none⟩ = some (.bool f11)) (first | go_keep) (first | (refine (p_bit0 _).mono ?_; rintro e w7 ⟨rfl, rfl⟩) | (refine (p_bit1 _).mono ?_; rintro e w7 ⟨rfl, rfl⟩))
        go_wp2
        go_roundg (128 - k - 1)
        case measure => have := hk.out; omega
        case rel =>
          refine ⟨k + 1, by omega, by go_num, ?_, hX.drew.far (by dsimp only; omega) _, hY.drew.far (by dsimp only; omega) _, hT.drew.far (by dsimp only; omega) _, hx.drew.set (by dsimp only; omega) _⟩
          have := hS.drew.set k (.bool f10)
          rw [← hst.out, hp.out, hq.out]
          exact this
      · rw [hp] at x1
        rw [hq] at y1
        have hp := Lib.hid hp
        have hq := Lib.hid hq
        go_wp2_with fail
        go_region_held3 (fun w' => w'.cell? ⟨xb, k, none⟩ = some (.bool true) ∧ w'.cell? ⟨xb + 1, k, none⟩ = some (.bool true) ∧ w'.cell? ⟨w.heap.size, 0, none⟩ = some (.bool f00) ∧ w'.cell? ⟨w.heap.size, 1, none⟩ = some (.bool f01) ∧ w'.cell? ⟨w.heap.size, 2, none⟩ = some (.bool f10) ∧ w'.cell? ⟨w.heap.size, 3, none⟩ = some (.bool f11)) (first | go_keep) (first | (refine (p_bit0 _).mono ?_; rintro e w7 ⟨rfl, rfl⟩) | (refine (p_bit1 _).mono ?_; rintro e w7 ⟨rfl, rfl⟩))
        go_wp2
        go_roundg (128 - k - 1)
        case measure => have := hk.out; omega
        case rel =>
          refine ⟨k + 1, by omega, by go_num, ?_, hX.drew.far (by dsimp only; omega) _, hY.drew.far (by dsimp only; omega) _, hT.drew.far (by dsimp only; omega) _, hx.drew.set (by dsimp only; omega) _⟩
          have := hS.drew.set k (.bool f11)
          rw [← hst.out, hp.out, hq.out]
          exact this
    · have hkk : k = 128 := by have := hk.out; omega
      subst hkk
      go_wp2_with fail
      refine (p_runs (xb + 1 + 1) (mixT (tabF f00 f01 f10 f11) (ofT ra) (ofT rb) 128) (mixT_len _ _ _ _) _ hS).mono ?_
      rintro e w3 ⟨v, rfl, hv, hx3⟩
      rw [mixT_len, mixT_all] at hv
      have hv2 := own_lower hv hx
      go_wp2
      go_ret
      exact ⟨v, rfl, hv2, hx.trans hx3⟩
end Go.Proofs.YtjdmgpefjehkaaaGreatDoor
