/- contents.Refs: the walk. -/
import Derived.Test.YtjdmgpefjehkaaaGreatDoorRefs
import Derived.Test.YtjdmgpefjehkaaaGreatDoorTab
import Derived.Test.YtjdmgpefjehkaaaGreatDoorRLines
namespace Go.Proofs.YtjdmgpefjehkaaaGreatDoor
open Go.RowKit
attribute [local go_sem] Instr.field asAgg
set_option maxRecDepth 100000

theorem ref_info : (Tryz.prog.info? 40).map (fun i => (i.zero, i.size, i.bytes)) = some (some (.agg #[.int .i64 0, .int .i64 0]), 2, 16) := by kernel_rfl
def refL (l : Label) : Ref := ⟨l.id, l.unit⟩
def refsOf (ls : List Label) : List Ref := (ls.filter fun l => !emptyL l).map refL
def refsS (ls : List Label) : List Ref := sortR (refsOf ls)
theorem refsOf_yes (ls : List Label) (k : Nat) (hk : k < ls.length) (h : emptyL ls[k] = true) : refsOf (ls.take (k + 1)) = refsOf (ls.take k) := by
  unfold refsOf; rw [List.take_succ_eq_append_getElem hk, List.filter_append, List.map_append, List.filter_cons_of_neg (by rw [h]; decide), List.filter_nil]; exact List.append_nil _
theorem refsOf_no (ls : List Label) (k : Nat) (hk : k < ls.length) (h : emptyL ls[k] = false) : refsOf (ls.take (k + 1)) = refsOf (ls.take k) ++ [refL ls[k]] := by
  unfold refsOf; rw [List.take_succ_eq_append_getElem hk, List.filter_append, List.map_append, List.filter_cons_of_pos (by rw [h]; rfl), List.filter_nil]; rfl
theorem refsOf_len (ls : List Label) : (refsOf ls).length ≤ ls.length := by
  unfold refsOf; rw [List.length_map]; exact List.length_filter_le _ _

set_option maxHeartbeats 2000000 in
theorem p_Refs (nm : ByteArray) (tr : Int) (A : Option Addr) (c : Nat) (ls : List Label) (w : World) (hA : Labels w A ls) :
    Calls Tryz.prog 17 #[.agg #[.string nm, .int .i64 tr, .slice A ls.length c]] w fun e w' => ∃ B cb, e = .returned (.slice B (refsS ls).length cb) ∧ Refs w' B (refsS ls) ∧ Ext w w' ∧ ∀ a, B = some a → w.heap.size ≤ a.block := by
  have hu2 := Tryz.underlying24
  have hu3 := Tryz.underlying43
  have hu4 := Tryz.underlying40
  have hlen := hA.len
  go_enter Tryz.func17, Tryz.ntmps17
  go_wp2
  go_loopg [3, 9] ls.length (fun g v i wr => ∃ k : Nat, k + g = ls.length ∧ i = .int .i64 k ∧ wr.ownsRow w.heap.size 40 2 v (refsOf (ls.take k)).length ((refsOf (ls.take k)).flatMap refCells) ∧ Blk wr w.heap.size 24 [.string nm, .int .i64 tr, .slice A ls.length c] ∧ Ext w wr)
  case atStart => exact ⟨0, by omega, rfl, World.ownsRow_nil _ _ _ _, Blk.new w _ [_, _, _], (Ext.refl w).alloc _⟩
  case round =>
    obtain ⟨k, hk, rfl, ho, hT, hx⟩ := hrel
    have hk := Lib.hid hk
    have d2 := hT.cell 2 rfl
    rcases Nat.lt_or_ge k ls.length with hlt | hge
    · obtain ⟨b, o, B, cB, rfl, a0, a1, a2, a3, a4, hR, hc⟩ := hA.at_ hlt
      have h0 := hx.cell a0
      have h1 := hx.cell a1
      have h2 := hx.cell a2
      have h3 := hx.cell a3
      have h4 := hx.cell a4
      have hL := refsOf_len (ls.take k)
      have hL2 : (ls.take k).length ≤ k := by simp; omega
      have hy := Lib.hid (refsOf_yes ls k hlt)
      have hn := Lib.hid (refsOf_no ls k hlt)
      have HE := fun w => p_empty ls[k] B cB w
      cases hq : emptyL ls[k] with
      | true =>
        rw [hq] at HE
        have hq := Lib.hid hq
        go_wp2_with (go_at_call 41; refine (HE _ (hR.ext ((hx.alloc _)))).mono ?_; rintro e w1 ⟨rfl, eB⟩)
        go_roundg (ls.length - k - 1)
        case measure => have := hk.out; omega
        case rel => exact ⟨k + 1, by omega, by go_num, by rw [hy.out hq.out]; exact own_ext ho (((Ext.refl _).alloc _).trans eB), hT.ext (((Ext.refl _).alloc _).trans eB), (hx.alloc _).trans eB⟩
      | false =>
        rw [hq] at HE
        have hq := Lib.hid hq
        go_wp2_with (first | (go_at_call 41; refine (HE _ (hR.ext ((hx.alloc _)))).mono ?_; rintro e w1 ⟨rfl, eB⟩; have hG := (Blk.new wr 43 [.int .i64 ls[k].id, .int .i64 ls[k].unit, .string ls[k].name, .string ls[k].note, .slice B ls[k].ext.length cB]).ext eB; have g0 := hG.cell 0 rfl; have g1 := hG.cell 1 rfl; have hT1 := hT.ext (((Ext.refl _).alloc _).trans eB); have ho1 := own_ext ho (((Ext.refl _).alloc _).trans eB); have hx1 := (hx.alloc _).trans eB; clear hG) | (at_builtin; refine app2 w.heap.size rfl _ _ _ 40 (.agg #[.int .i64 0, .int .i64 0]) 2 16 rfl Tryz.underlying25 ref_info rfl (by omega) (by omega) u3 _ _ (refCells (refL ls[k])) rfl (by simp [Value.oneCell', refCells]) rfl _ rfl (by simp) ho1 hx1.le (by omega) ?_; intro v1 w3 oB gA))
        go_roundg (ls.length - k - 1)
        case measure => have := hk.out; omega
        case rel => exact ⟨k + 1, by omega, by go_num, by rw [hn.out hq.out, List.length_append, List.flatMap_append]; simpa using oB, hT1.grown gA (own_far ho1 hT1 (by decide)), hx1.own ho1 gA⟩
    · have hkk : k = ls.length := by have := hk.out; omega
      rw [List.take_of_length_le hge] at ho
      have hL := refsOf_len ls
      obtain ⟨C, cc, rfl, _⟩ := own_slice ho
      have hln : (refsS ls).length = (refsOf ls).length := sortR_len _
      have hln := Lib.hid hln
      go_wp2_with (go_at_call 44; refine (p_sort w _ (by omega) _ _ ho hx).mono ?_; rintro e w1 ⟨rfl, hS, eS, _, _⟩)
      go_ret
      exact ⟨C, cc, by rw [hln.out]; rfl, ⟨hS, fun r hr => by
        obtain ⟨l, hl, rfl⟩ := List.mem_map.1 (sortR_mem.1 hr)
        have := hA.ok l (List.mem_filter.1 hl).1
        exact ⟨this.1, this.2.1⟩, by rw [hln.out]; omega⟩, eS, fun a ha => (ho.lt a.block (by simp [Value.ownBlock, ha])).1⟩
end Go.Proofs.YtjdmgpefjehkaaaGreatDoor
