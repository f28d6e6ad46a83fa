/- The contracts of package dasdref05 that make runs: set, Set (a without b), Normal. -/
import Derived.Test.YtjdmgpefjehkaaaGreatDoorRef05a
import Derived.Test.YtjdmgpefjehkaaaGreatDoorNorm
import Derived.Deep.QuietTactic
import Derived.BigQuiet
namespace Go.Proofs.YtjdmgpefjehkaaaGreatDoor
open Go.RowKit
attribute [local go_sem] Instr.field asAgg
set_option maxRecDepth 100000

theorem run_info : (Tryz.prog.info? 68).map (fun i => (i.zero, i.size, i.bytes)) = some (some (.agg #[.int .i64 0, .int .i64 0]), 2, 16) := by kernel_rfl
theorem bool_info : (Tryz.prog.info? 4).map (fun i => (i.zero, i.size, i.bytes)) = some (some (.bool false), 1, 1) := by kernel_rfl
def OwnRuns (w0 w : World) (v : Value) (rs : List Run) : Prop := w.ownsRow w0.heap.size 68 2 v rs.length (rs.flatMap runCells)
theorem OwnRuns.runs {w0 w : World} {v : Value} {rs : List Run} (h : OwnRuns w0 w v rs) (hok : ∀ r ∈ rs, r.ok) (hl : (rs.length : Int) ≤ 8796093022208) : ∃ A c, v = .slice A rs.length c ∧ rs.length ≤ c ∧ Runs w A rs := by
  obtain ⟨A, c, rfl, hc⟩ := own_slice h
  exact ⟨A, c, rfl, hc, Sl.own h, hok, hl⟩
theorem OwnRuns.ext {w0 w w' : World} {v : Value} {rs : List Run} (h : OwnRuns w0 w v rs) (k : Ext w w') : OwnRuns w0 w' v rs :=
  World.ownsRow.kept (row := none) h ⟨k.os, k.tape, k.output, k.size, fun i hi _ => k.block i hi⟩ (by cases Value.ownBlock v <;> simp)
def boolCells (l : List Bool) : List Value := l.map .bool
theorem boolCells_snoc (l : List Bool) (x : Bool) : boolCells l ++ [.bool x] = boolCells (l ++ [x]) := by simp [boolCells]
structure Bools (w : World) (A : Option Addr) (l : List Bool) : Prop where
  sl : Sl w A (boolCells l)
theorem Bools.ext {w w' : World} {A : Option Addr} {l : List Bool} (h : Bools w A l) (k : Ext w w') : Bools w' A l := ⟨h.sl.ext k⟩
theorem Bools.at_ {w : World} {A : Option Addr} {l : List Bool} (h : Bools w A l) {i : Nat} (hi : i < l.length) : ∃ b o, A = some ⟨b, o, none⟩ ∧ (w.cell? ⟨b, o + i, none⟩ = some (.bool (l.getD i false))) ∧ ∀ j, j < l.length → w.cell? ⟨b, o + j, none⟩ = some (.bool (l.getD j false)) := by
  obtain ⟨b, o, e, hc⟩ := h.sl (by intro hn; have : (boolCells l).length = l.length := by simp [boolCells]
                                   rw [hn] at this; simp at this; omega)
  have hj : ∀ j, j < l.length → w.cell? ⟨b, o + j, none⟩ = some (.bool (l.getD j false)) := fun j hj => hc j _ (by simp [boolCells, hj])
  exact ⟨b, o, e, hj i hi, hj⟩

theorem r_set (A : Option Addr) (cap : Nat) (bs : List Bool) (hl : (bs.length : Int) ≤ 100000) (w : World) (hA : Bools w A bs) :
    Calls Tryz.prog 133 #[.slice A bs.length cap] w fun e w' => ∃ v, e = .returned v ∧ OwnRuns w w' v (normTo (fun i => bs.getD i false) bs.length) ∧ Ext w w' := by
  have hu := Tryz.underlying68
  go_enter Tryz.func133, Tryz.ntmps133
  go_wp2
  go_loopg [3, 4] bs.length (fun g v i wr => ∃ k : Nat, k + g = bs.length ∧ i = .int .i64 k ∧ OwnRuns w wr v (normTo (fun i => bs.getD i false) k) ∧ Ext w wr)
  case atStart => exact ⟨0, by omega, rfl, own_new w _ _ _ (Nat.le_refl _), (Ext.refl w).alloc _⟩
  case round =>
    obtain ⟨k, hk, rfl, ho, hx⟩ := hrel
    have hk := Lib.hid hk
    rcases Nat.lt_or_ge k bs.length with hlt | hge
    · obtain ⟨b, o, rfl, h1, hall⟩ := (hA.ext hx).at_ hlt
      have hall := Lib.hid hall
      have hnl := normTo_len (fun i => bs.getD i false) k
      cases hb : bs.getD k false with
      | false =>
        rw [hb] at h1
        have hb := Lib.hid hb
        go_wp2
        go_roundg (bs.length - k - 1)
        case measure => have := hk.out; omega
        case rel => exact ⟨k + 1, by omega, by go_num, by rw [normTo, hb.out]; exact ho, hx⟩
      | true =>
        rw [hb] at h1
        have hb := Lib.hid hb
        have hap : ∀ (hnn : ¬ (0 < k ∧ bs.getD (k - 1) false = true)), Hid (normTo (fun i => bs.getD i false) (k + 1) = normTo (fun i => bs.getD i false) k ++ [⟨k, 1⟩]) := fun hnn => by
          show normTo _ (k + 1) = _
          rw [normTo, if_pos hb.out, if_neg hnn]
        rcases Nat.eq_zero_or_pos k with h0 | h0
        · have he := hap (by omega)
          clear hap
          have h0' : (k : Int) ≤ 0 := by omega
          clear h0
          go_wp2_with (at_builtin; refine app1 w.heap.size rfl _ _ _ 68 (.agg #[.int .i64 0, .int .i64 0]) 2 16 rfl Tryz.underlying41 run_info rfl (by omega) (by omega) u3 _ _ [.int .i64 k, .int .i64 1] rfl (by simp [Value.oneCell']) rfl rfl ho hx.le (by omega) ?_; intro v1 w2 ho3 hg)
          go_roundg (bs.length - k - 1)
          case measure => have := hk.out; omega
          case rel => exact ⟨k + 1, by omega, by go_num, by rw [he.out]; simpa [OwnRuns, runCells] using ho3, hx.own ho hg⟩
        · cases hp : bs.getD (k - 1) false with
          | false =>
            have h2 := hall.out (k - 1) (by omega)
            rw [hp] at h2
            have he := hap (by rw [hp]; simp)
            clear hap
            have hp := Lib.hid hp
            have h0' : (1 : Int) ≤ k := by omega
            go_wp2_with (at_builtin; refine app1 w.heap.size rfl _ _ _ 68 (.agg #[.int .i64 0, .int .i64 0]) 2 16 rfl Tryz.underlying41 run_info rfl (by omega) (by omega) u3 _ _ [.int .i64 k, .int .i64 1] rfl (by simp [Value.oneCell']) rfl rfl ho hx.le (by omega) ?_; intro v1 w2 ho3 hg)
            go_roundg (bs.length - k - 1)
            case measure => have := hk.out; omega
            case rel => exact ⟨k + 1, by omega, by go_num, by rw [he.out]; simpa [OwnRuns, runCells] using ho3, hx.own ho hg⟩
          | true =>
            have h2 := hall.out (k - 1) (by omega)
            rw [hp] at h2
            clear hap
            obtain ⟨s, r, hs, hr⟩ := normTo_last (fun i => bs.getD i false) k h0 hp
            have hbd := normTo_bd (fun i => bs.getD i false) k r (by rw [hs]; simp)
            have he : Hid (normTo (fun i => bs.getD i false) (k + 1) = s ++ [⟨r.f, r.c + 1⟩]) := by
              show normTo _ (k + 1) = _
              rw [normTo, if_pos hb.out, if_pos ⟨h0, hp⟩, hs, bumpLast_snoc]
            have hp := Lib.hid hp
            rw [hs] at ho hnl
            have hs := Lib.hid hs
            have h0' : (1 : Int) ≤ k := by omega
            have hlen : s.length + 1 ≤ k := by simpa using hnl
            obtain ⟨g, cap', hv, _, hg⟩ := World.ownsRow.form ho (by simp)
            obtain rfl := hv
            have c1 : wr.cell? ⟨g, s.length * 2 + 1, none⟩ = some (.int .i64 r.c) := (ho.cellAt (s.length * 2 + 1) (by simp; omega)).trans (by
              rw [List.flatMap_append, List.getElem?_append_right (by rw [flat_len]; omega), flat_len]
              have : s.length * 2 + 1 - s.length * 2 = 1 := by omega
              rw [this]; rfl)
            have z1 := ho.frozenAt (s.length * 2 + 1)
            simp only [List.length_append, List.length_cons, List.length_nil, Nat.zero_add]
            go_wp2
            have hst := ho.stored (s.length * 2 + 1) (.int .i64 (r.c + 1))
            rw [set_cells] at hst
            go_roundg (bs.length - k - 1)
            case measure => have := hk.out; omega
            case rel => exact ⟨k + 1, by omega, by go_num, by rw [he.out]; simpa [OwnRuns] using hst.1, hx.grown hst.2 (fun i hi => by obtain rfl : g = i := (by simpa using hi); exact (World.ownsRow.lt ho g (by simp [Value.ownBlock])).1)⟩
    · have : normTo (fun i => bs.getD i false) bs.length = normTo (fun i => bs.getD i false) k := by
        have : k = bs.length := by have := hk.out; omega
        rw [this]
      rw [← this] at ho
      go_wp2
      go_ret
      exact ⟨_, rfl, ho, hx⟩

theorem r_Set (A B : Option Addr) (ca cb : Nat) (a b : List Run) (w : World) (hA : Runs w A a) (hB : Runs w B b) :
    Calls Tryz.prog 127 #[.slice A a.length ca, .slice B b.length cb, .bool true, .bool false, .bool false] w fun e w' => ∃ v, e = .returned v ∧ OwnRuns w w' v (norm fun t => (ixT a t).isSome && !(ixT b t).isSome) ∧ Ext w w' := by
  go_enter Tryz.func127, Tryz.ntmps127
  go_wp2
  go_loopg [11, 12] 128 (fun g v i wr => ∃ k : Nat, k + g = 128 ∧ i = .int .i64 k ∧ wr.ownsRow w.heap.size 4 1 v k (boolCells ((List.range k).map fun t : Nat => (ixT a t).isSome && !(ixT b t).isSome)) ∧ Ext w wr)
  case atStart => exact ⟨0, by omega, rfl, by simpa [boolCells] using own_new w w.heap.size 4 1 (Nat.le_refl _), (Ext.refl w).alloc _⟩
  case round =>
    obtain ⟨k, hk, rfl, ho, hx⟩ := hrel
    have hk := Lib.hid hk
    rcases Nat.lt_or_ge k 128 with hlt | hge
    · go_wp2_with fail
      refine (r_in A ca a k ⟨by omega, by omega⟩ _ (hA.ext hx)).mono ?_
      rintro e w1 ⟨rfl, hx1⟩
      go_wp2_with fail
      refine (r_in B cb b k ⟨by omega, by omega⟩ _ ((hB.ext hx).ext hx1)).mono ?_
      rintro e w2 ⟨rfl, hx2⟩
      have hx3 := (hx.trans hx1).trans hx2
      have ho2 := (ho.kept (row := none) ⟨hx1.os, hx1.tape, hx1.output, hx1.size, fun i hi _ => hx1.block i hi⟩ (by cases Value.ownBlock u11 <;> simp)).kept (row := none) ⟨hx2.os, hx2.tape, hx2.output, hx2.size, fun i hi _ => hx2.block i hi⟩ (by cases Value.ownBlock u11 <;> simp)
      have hr : Hid ((List.range (k + 1)).map (fun t : Nat => (ixT a t).isSome && !(ixT b t).isSome) = (List.range k).map (fun t : Nat => (ixT a t).isSome && !(ixT b t).isSome) ++ [(ixT a k).isSome && !(ixT b k).isSome]) := by
        show List.map _ (List.range (k + 1)) = _
        rw [List.range_succ, List.map_append]; rfl
      generalize (ixT a (k : Int)).isSome = x at *
      generalize (ixT b (k : Int)).isSome = y at *
      cases x <;> cases y
      all_goals
        go_wp2_with (at_builtin; refine app1 w.heap.size rfl _ _ _ 4 (.bool false) 1 1 rfl Tryz.underlying153 bool_info rfl (by omega) (by omega) u11 _ _ [.bool _] rfl (by simp [Value.oneCell']) rfl rfl ho2 hx3.le (by omega) ?_; intro v1 w3 ho3 hg)
        go_roundg (128 - k - 1)
        case measure => have := hk.out; omega
        case rel => exact ⟨k + 1, by omega, by go_num, by rw [hr.out, ← boolCells_snoc]; exact ho3, hx3.own ho2 hg⟩
    · obtain rfl : k = 128 := by have := hk.out; omega
      obtain ⟨C, c, rfl, _⟩ := own_slice ho
      go_wp2_with fail
      have hlen : ((List.range 128).map fun t : Nat => (ixT a t).isSome && !(ixT b t).isSome).length = 128 := by simp
      have hs := r_set C c ((List.range 128).map fun t : Nat => (ixT a t).isSome && !(ixT b t).isSome) (by rw [hlen]; omega) wr ⟨Sl.own ho⟩
      rw [hlen] at hs
      refine hs.mono ?_
      rintro e w1 ⟨v, rfl, hv, hx1⟩
      go_wp2
      go_ret
      refine ⟨v, rfl, ?_, hx.trans hx1⟩
      rw [normTo_congr (q := fun t : Nat => (ixT a t).isSome && !(ixT b t).isSome) 128 (fun i hi => by simp [List.getD_eq_getElem?_getD, hi])] at hv
      exact ⟨hv.1, hv.2.imp id (fun ⟨g, cap, cur, h1, h2, h3⟩ => ⟨g, cap, cur, h1, Nat.le_trans hx.le h2, h3⟩)⟩
end Go.Proofs.YtjdmgpefjehkaaaGreatDoor
