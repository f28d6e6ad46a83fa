/- The walks of the laws ScrubLines and ScrubOwners. -/
import Derived.Test.YtjdmgpefjehkaaaDoorAwake
import Derived.Test.YtjdmgpefjehkaaaDoorFew
import Derived.Test.YtjdmgpefjehkaaaDoorMap
import Derived.Deep.RegionHeld3
namespace Go.Proofs.YtjdmgpefjehkaaaDoor
open Go.RowKit
attribute [local go_sem] Instr.field asAgg
set_option maxRecDepth 100000

theorem w_ScrubLines (x : Scrub) (A2 A3 A4 : Option Addr) (c2 c3 c4 : Nat) (w : World) (hX : ScrubOk w x A2 A3 A4) (ht : Tab10 w) :
    Calls Tryd.prog 3 #[.agg #[.int .i64 x.free, .int .i64 x.used, .slice A2 x.tent.length c2, .slice A3 x.shared.length c3, .slice A4 x.bad.length c4]] w fun e w' => e = .returned (.bool true) ∧ Ext w w' := by
  have hu := Tryd.underlying26
  have hB0 := Blk.new w 26 [.int .i64 x.free, .int .i64 x.used, .slice A2 x.tent.length c2, .slice A3 x.shared.length c3, .slice A4 x.bad.length c4]
  have hx0 := (Ext.refl w).alloc (.cells #[.int .i64 x.free, .int .i64 x.used, .slice A2 x.tent.length c2, .slice A3 x.shared.length c3, .slice A4 x.bad.length c4] 26)
  have HF := fun w => r_few15 x A2 A3 A4 c2 c3 c4 w
  go_enter Tryd.func3, Tryd.ntmps3
  go_wp2_with fail
  refine (p_awake _ (ht.ext hx0)).mono ?_
  rintro e w1 ⟨rfl, hx1⟩
  have hB1 := hB0.ext hx1
  have hx2 := hx0.trans hx1
  have a0 := hB1.cell 0 rfl
  have a1 := hB1.cell 1 rfl
  have a2 := hB1.cell 2 rfl
  have a3 := hB1.cell 3 rfl
  have a4 := hB1.cell 4 rfl
  cases hf : fewX x with
  | false =>
    rw [hf] at HF
    have hf := Lib.hid hf
    go_wp2_with (go_at_call 6; refine (HF _).mono ?_; clear HF; rintro e w3 ⟨rfl, hx3⟩)
    refine (p_awake _ (ht.ext (hx2.trans hx3))).mono ?_
    rintro e w4 ⟨rfl, hx4⟩
    go_wp2
    go_ret
    exact ⟨rfl, (hx2.trans hx3).trans hx4⟩
  | true =>
    have hsm : (x.tent.length : Int) + x.shared.length + x.bad.length ≤ 1000000 := by
      simp [fewX] at hf
      omega
    rw [hf] at HF
    have hf := Lib.hid hf
    go_wp2_with (go_at_call 6; refine (HF _).mono ?_; clear HF; rintro e w3 ⟨rfl, hx3⟩)
    have hB3 := hB1.ext hx3
    have hx := (hx2.trans hx3).drew
    clear a0 a1 a2 a3 a4
    have a0 := hB3.cell 0 rfl
    have a1 := hB3.cell 1 rfl
    have a2 := hB3.cell 2 rfl
    have a3 := hB3.cell 3 rfl
    have a4 := hB3.cell 4 rfl
    go_region_held3 (fun w' => w'.cell? ⟨w.heap.size, 0, none⟩ = some (.int .i64 x.free) ∧ w'.cell? ⟨w.heap.size, 1, none⟩ = some (.int .i64 x.used) ∧ w'.cell? ⟨w.heap.size, 2, none⟩ = some (.slice A2 x.tent.length c2) ∧ w'.cell? ⟨w.heap.size, 3, none⟩ = some (.slice A3 x.shared.length c3) ∧ w'.cell? ⟨w.heap.size, 4, none⟩ = some (.slice A4 x.bad.length c4)) (first | go_keep | (go_split_ands; exact ⟨hy.cell (by assumption), hy.cell (by assumption), hy.cell (by assumption), hy.cell (by assumption), hy.cell (by assumption)⟩)) (first | (go_at_call 8; refine (p_Lines x A2 A3 A4 c2 c3 c4 hsm _ (hX.ext hx) (ht.ext hx)).mono ?_; rintro e w5 ⟨P, cp, rfl, hP, hy⟩; have hx := hx.trans hy) | (go_at_call 9; refine (r_Lines x A2 A3 A4 c2 c3 c4 hsm _ (hX.ext hx)).mono ?_; rintro e w6 ⟨R, cr, rfl, hR, hy⟩; have hx := hx.trans hy; have hP := hP.ext hy) | (go_at_call 7; refine (r_same10 _ _ _ _ _ _ _ hP hR).mono ?_; rintro e w7 ⟨rfl, hy⟩; have hx := hx.trans hy))
    go_wp2
    go_ret
    exact ⟨by simp, hx⟩

theorem eqlRs (a b : Int) (w : World) : (binOp .eql 37 (.agg #[.int .i64 a, .int .i64 b]) (.agg #[.int .i64 a, .int .i64 b])).run Tryd.prog w = .ok (.bool true) w := by
  rw [eqlR]; simp
theorem few_ext {nm : ByteArray} {ls : List Label} (h : fewT nm ls = true) : ∀ l ∈ ls, (l.ext.length : Int) ≤ 30 := by
  simp only [fewT, Bool.and_eq_true, List.all_eq_true] at h
  intro l hl
  have := h.1 l hl
  simp only [fewL, Bool.and_eq_true, decide_eq_true_eq] at this
  exact this.2.2
theorem w_ScrubOwners (nm : ByteArray) (tr : Int) (A : Option Addr) (c : Nat) (ls : List Label) (s : Int) (hs : I64 s) (w : World) (hA : Labels w A ls) (ht : Tab10 w) :
    Calls Tryd.prog 4 #[.agg #[.string nm, .int .i64 tr, .slice A ls.length c], .int .i64 s] w fun e w' => e = .returned (.bool true) ∧ Ext w w' := by
  have hu := Tryd.underlying34
  have hu2 := Tryd.underlying37
  have hB0 := Blk.new w 34 [.string nm, .int .i64 tr, .slice A ls.length c]
  have hx0 := (Ext.refl w).alloc (.cells #[.string nm, .int .i64 tr, .slice A ls.length c] 34)
  have HF := fun w => r_few08 nm tr A c ls w
  go_enter Tryd.func4, Tryd.ntmps4
  go_wp2_with fail
  refine (p_awake _ (ht.ext hx0)).mono ?_
  rintro e w1 ⟨rfl, hx1⟩
  have hB1 := hB0.ext hx1
  have hx2 := hx0.trans hx1
  have a0 := hB1.cell 0 rfl
  have a1 := hB1.cell 1 rfl
  have a2 := hB1.cell 2 rfl
  cases hf : fewT nm ls with
  | false =>
    rw [hf] at HF
    have hf := Lib.hid hf
    go_wp2_with (go_at_call 10; refine (HF _ (hA.ext hx2)).mono ?_; clear HF; rintro e w3 ⟨rfl, hx3⟩)
    refine (p_awake _ (ht.ext (hx2.trans hx3))).mono ?_
    rintro e w4 ⟨rfl, hx4⟩
    go_wp2
    go_ret
    exact ⟨rfl, (hx2.trans hx3).trans hx4⟩
  | true =>
    have hsm := few_ext hf
    have hsm' : ∀ l ∈ ls, (l.ext.length : Int) ≤ 4294967296 := fun l hl => by have := hsm l hl; omega
    have hsm := Lib.hid hsm
    rw [hf] at HF
    have hf := Lib.hid hf
    go_wp2_with fail
    refine (HF _ (hA.ext hx2)).mono ?_
    clear HF
    rintro e w3 ⟨rfl, hx3⟩
    have hB3 := hB1.ext hx3
    have hx4 := hx2.trans hx3
    clear a0 a1 a2
    have a0 := hB3.cell 0 rfl
    have a1 := hB3.cell 1 rfl
    have a2 := hB3.cell 2 rfl
    go_wp2_with fail
    have HO := fun w => p_Owner nm tr A c ls s hs w
    have HR := fun w => r_Owner nm tr A c ls hsm' s hs w
    have hq := eqlRs (ownS ls s).id (ownS ls s).unit
    have hid : I64 (ownS ls s).n ∨ True := .inr trivial
    clear hid
    generalize ownS ls s = o at HO HR hq
    refine (HO _ (hA.ext hx4)).mono ?_
    clear HO
    rintro e w5 ⟨rfl, hx5⟩
    have hB5 := (hB3.ext hx5).alloc (.cells #[.int .i64 o.id, .int .i64 o.unit] 37)
    have hx6 := (hx4.trans hx5).alloc (.cells #[.int .i64 o.id, .int .i64 o.unit] 37)
    have hO5 := Blk.new w5 37 [.int .i64 o.id, .int .i64 o.unit]
    clear a0 a1 a2
    have a0 := hB5.cell 0 rfl
    have a1 := hB5.cell 1 rfl
    have a2 := hB5.cell 2 rfl
    have al := hB5.lt
    go_wp2_with fail
    refine (HR _ (hA.ext hx6)).mono ?_
    clear HR
    rintro e w7 ⟨rfl, hx7⟩
    have hB7 := (hB5.ext hx7).alloc (.cells #[.int .i64 o.id, .int .i64 o.unit] 37)
    have hx8 := (hx6.trans hx7).alloc (.cells #[.int .i64 o.id, .int .i64 o.unit] 37)
    have hO7 := (hO5.ext hx7).alloc (.cells #[.int .i64 o.id, .int .i64 o.unit] 37)
    have hP7 := Blk.new w7 37 [.int .i64 o.id, .int .i64 o.unit]
    clear a0 a1 a2 al
    have a0 := hB7.cell 0 rfl
    have a1 := hB7.cell 1 rfl
    have a2 := hB7.cell 2 rfl
    have o0 := hO7.cell 0 rfl
    have o1 := hO7.cell 1 rfl
    have q0 := hP7.cell 0 rfl
    have q1 := hP7.cell 1 rfl
    have hx := hx8.drew
    go_wp2_with fail
    go_region_held3 (fun w' => w'.cell? ⟨w.heap.size, 0, none⟩ = some (.string nm) ∧ w'.cell? ⟨w.heap.size, 1, none⟩ = some (.int .i64 tr) ∧ w'.cell? ⟨w.heap.size, 2, none⟩ = some (.slice A ls.length c) ∧ w'.cell? ⟨w5.heap.size, 0, none⟩ = some (.int .i64 o.id) ∧ w'.cell? ⟨w5.heap.size, 1, none⟩ = some (.int .i64 o.unit) ∧ w'.cell? ⟨w7.heap.size, 0, none⟩ = some (.int .i64 o.id) ∧ w'.cell? ⟨w7.heap.size, 1, none⟩ = some (.int .i64 o.unit)) (first | go_keep | (go_split_ands; exact ⟨hy.cell (by assumption), hy.cell (by assumption), hy.cell (by assumption), hy.cell (by assumption), hy.cell (by assumption), hy.cell (by assumption), hy.cell (by assumption)⟩)) (first | (go_at_call 14; refine (p_Map nm tr A c ls _ (hA.ext hx)).mono ?_; rintro e w9 ⟨P, cp, rfl, hP, hy⟩; have hx := hx.trans hy) | (go_at_call 15; refine (r_Map nm tr A c ls hsm' _ (hA.ext hx)).mono ?_; rintro e w10 ⟨R, cr, rfl, hR, hy⟩; have hx := hx.trans hy; have hP := hP.ext hy) | (go_at_call 13; refine (r_ints _ _ _ _ _ _ _ hP hR).mono ?_; rintro e w11 ⟨rfl, hy⟩; have hx := hx.trans hy))
    go_wp2
    go_ret
    exact ⟨by simp, hx⟩
end Go.Proofs.YtjdmgpefjehkaaaDoor
