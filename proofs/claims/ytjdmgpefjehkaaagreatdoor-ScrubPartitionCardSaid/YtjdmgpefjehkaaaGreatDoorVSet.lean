/- The contract of extent.of: the set of the tracks of runs. The contract of (*set).runs of package extent: the normal form of a set that lies in a block. The contracts of extent.Normal and extent.Disjoint. The contract of extent.Join. -/
import Derived.Test.YtjdmgpefjehkaaaGreatDoorExtent
import Derived.Test.YtjdmgpefjehkaaaGreatDoorRef05
import Derived.Laws.CopyOwn
import Derived.BigRegion
import Derived.StillTailTactics
namespace Go.Proofs.YtjdmgpefjehkaaaGreatDoor
open Go.RowKit
attribute [local go_sem] Instr.field asAgg
set_option maxRecDepth 100000

def ofT (rs : List Run) : List Bool := (List.range 128).map fun t : Nat => (ixT rs t).isSome
def partT (rs : List Run) (k : Nat) (f : Int) (j : Nat) : List Bool := (List.range 128).map fun t : Nat => (ixT (rs.take k) t).isSome || (decide (f ≤ (t : Int)) && decide ((t : Int) < f + j))
theorem partT_len (rs : List Run) (k : Nat) (f : Int) (j : Nat) : (partT rs k f j).length = 128 := by simp [partT]
theorem partT_zero (rs : List Run) (k : Nat) (f : Int) : partT rs k f 0 = ofT (rs.take k) := by
  unfold partT ofT
  refine List.map_congr_left fun t _ => ?_
  have : (decide (f ≤ (t : Int)) && decide ((t : Int) < f + (0 : Nat))) = false := by
    rw [Bool.eq_false_iff]
    simp
  rw [this, Bool.or_false]
theorem partT_full (rs : List Run) (k : Nat) (h : k < rs.length) (j : Nat) (hj : (j : Int) = (clip rs[k]).c) : partT rs k (clip rs[k]).f j = ofT (rs.take (k + 1)) := by
  unfold partT ofT
  refine List.map_congr_left fun t _ => ?_
  have e := ixT_take rs t k h
  have hh : has rs[k] t = (decide ((clip rs[k]).f ≤ (t : Int)) && decide ((t : Int) < (clip rs[k]).f + j)) := by rw [hj]; rfl
  rw [e, ← hh]
  cases h1 : ixT (rs.take k) t <;> cases h2 : has rs[k] t <;> simp
theorem partT_step (rs : List Run) (k : Nat) (f : Int) (j : Nat) (hf : 0 ≤ f) : (boolCells (partT rs k f j)).set (f + j).toNat (.bool true) = boolCells (partT rs k f (j + 1)) := by
  unfold boolCells partT
  apply List.ext_getElem
  · simp
  · intro i h1 h2
    rw [List.getElem_set]
    split
    · rename_i h3
      subst h3
      simp
      right
      omega
    · rename_i h3
      have e2 : decide ((i : Int) < f + j) = decide ((i : Int) < f + ((j + 1 : Nat) : Int)) := decide_eq_decide.mpr ⟨fun _ => by omega, fun _ => by omega⟩
      simp only [List.getElem_map, List.getElem_range, e2]
theorem ofT_len (rs : List Run) : (ofT rs).length = 128 := by simp [ofT]
theorem set_size (l : List Bool) (h : l.length = 128) : (Tryz.prog.info? 112).map (·.size) = some (boolCells l).toArray.size := by
  have : (boolCells l).toArray.size = 128 := by simp [boolCells, h]
  rw [this]
  have h : (Tryz.prog.info? 112).map (·.size) = some 128 := by kernel_rfl
  exact h
theorem set_one (l : List Bool) : (boolCells l).toArray.all (·.oneCell') = true := by
  simp [boolCells, Value.oneCell']
theorem set_eq (l l' : List Bool) (h : l.length = 128) (h' : l'.length = 128) : (boolCells l).toArray.size = (boolCells l').toArray.size := by simp [boolCells, h, h']
theorem Ext.setRow {a w : World} (h : Ext a w) {g : Nat} (hg : a.heap.size ≤ g) (cs : Array Value) : Ext a (w.setRow g cs) := below_setRow h hg cs
theorem p_of (A : Option Addr) (cap : Nat) (rs : List Run) (w : World) (hA : Runs w A rs) :
    Calls Tryz.prog 92 #[.slice A rs.length cap] w fun e w' => e = .returned (.agg (boolCells (ofT rs)).toArray) ∧ Ext w w' := by
  have hl := hA.len
  have hu := Tryz.underlying68
  have hus := Tryz.underlying112
  have hz : Tryz.zeroCells112 = (boolCells (ofT [])).toArray := by kernel_rfl
  have hS0 := Blk.new_at (g := w.heap.size + 1) (w := w.alloc (.cells Tryz.zeroCells112 112)) (by simp) 112 (boolCells (ofT []))
  have hR0 := (Blk.new w 112 (boolCells (ofT []))).alloc (.cells Tryz.zeroCells112 112)
  rw [← hz] at hS0 hR0
  clear hz
  have hx0 := ((Ext.refl w).alloc (.cells Tryz.zeroCells112 112)).alloc (.cells Tryz.zeroCells112 112)
  go_enter Tryz.func92, Tryz.ntmps92
  go_wp2
  go_loopg [9] rs.length (fun g i wr => ∃ k : Nat, k + g = rs.length ∧ i = .int .i64 k ∧ Blk wr (w.heap.size + 1) 112 (boolCells (ofT (rs.take k))) ∧ Blk wr w.heap.size 112 (boolCells (ofT [])) ∧ Ext w wr)
  case atStart => exact ⟨0, by omega, rfl, hS0, hR0, hx0⟩
  case round =>
    obtain ⟨k, hk, rfl, hS, hR, hx⟩ := hrel
    have hk := Lib.hid hk
    rcases Nat.lt_or_ge k rs.length with hlt | hge
    · obtain ⟨b, o, rfl, h1, h2⟩ := (hA.ext hx).at_ hlt
      obtain ⟨hb1, hb2, hb3⟩ := clip_bd rs[k]
      go_wp2_with fail
      refine (clip_any rs[k] (hA.okAt hlt) _).mono ?_
      rintro e w1 ⟨rfl, hx1⟩
      have hx2 := hx.trans (Ext.trans ((Ext.refl _).alloc _) hx1)
      have hB := (Blk.new wr 68 [.int .i64 rs[k].f, .int .i64 rs[k].c]).ext hx1
      have hS1 := hS.ext (Ext.trans ((Ext.refl _).alloc _) hx1)
      have hR1 := hR.ext (Ext.trans ((Ext.refl _).alloc _) hx1)
      have hle := hx.le
      have hSlt := hS.lt
      have c0 := hB.cell 0 rfl
      have c1 := hB.cell 1 rfl
      have z0 := hB.frozen 0
      have z1 := hB.frozen 1
      generalize wr.heap.size = bk at hB hle hSlt c0 c1 z0 z1 ⊢
      go_wp2
      go_loopg [6, 17] (clip rs[k]).c.toNat (fun g _ i w2 => ∃ j : Nat, j + g = (clip rs[k]).c.toNat ∧ i = .int .i64 j ∧ Blk w2 (w.heap.size + 1) 112 (boolCells (partT rs k (clip rs[k]).f j)) ∧ Blk w2 w.heap.size 112 (boolCells (ofT [])) ∧ Blk w2 bk 68 [.int .i64 (clip rs[k]).f, .int .i64 (clip rs[k]).c] ∧ Ext w w2)
      case atStart =>
        refine ⟨0, by omega, rfl, ?_, (hR1.far (p := ⟨bk, 0, none⟩) (by dsimp only; omega) _).far (p := ⟨bk, 1, none⟩) (by dsimp only; omega) _, (hB.set 0 _).set 1 _, (hx2.set (p := ⟨bk, 0, none⟩) hle _).set (p := ⟨bk, 1, none⟩) hle _⟩
        rw [partT_zero]
        exact (hS1.far (p := ⟨bk, 0, none⟩) (by dsimp only; omega) _).far (p := ⟨bk, 1, none⟩) (by dsimp only; omega) _
      case round =>
        obtain ⟨j, hj, rfl, hS2, hR2, hB2, hx3⟩ := hrel
        have hj := Lib.hid hj
        have d0 := hB2.cell 0 rfl
        rcases Nat.lt_or_ge j (clip rs[k]).c.toNat with hjl | hjg
        · have hln : (boolCells (partT rs k (clip rs[k]).f j)).length = 128 := (List.length_map ..).trans (partT_len ..)
          have hlt2 : ((clip rs[k]).f + j).toNat < (boolCells (partT rs k (clip rs[k]).f j)).length := by rw [hln]; omega
          obtain ⟨v, hv⟩ : ∃ v, (boolCells (partT rs k (clip rs[k]).f j))[((clip rs[k]).f + j).toNat]? = some v := ⟨_, List.getElem?_eq_getElem hlt2⟩
          clear hln hlt2
          have cS := hS2.cell _ hv
          have zS := hS2.frozen ((clip rs[k]).f + j).toNat
          clear hv
          go_wp2
          go_roundg ((clip rs[k]).c.toNat - j - 1)
          case measure => have := hj.out; omega
          case rel =>
            refine ⟨j + 1, by omega, by go_num, ?_, hR2.far (by dsimp only; omega) _, hB2.far (by dsimp only; omega) _, hx3.set (by dsimp only; omega) _⟩
            have := hS2.set ((clip rs[k]).f + j).toNat (.bool true)
            rw [partT_step _ _ _ _ hb1] at this
            exact this
        · rw [partT_full rs k hlt j (by have := hj.out; omega)] at hS2
          go_wp2
          go_roundg (rs.length - k - 1)
          case measure => have := hk.out; omega
          case rel => exact ⟨k + 1, by have := hk.out; omega, by go_num, hS2, hR2, hx3⟩
    · have : rs.take k = rs := List.take_of_length_le hge
      rw [this] at hS
      clear hus
      have g1 := set_size (ofT rs) (ofT_len rs)
      have g2 := set_one (ofT rs)
      have g3 := set_eq (ofT []) (ofT rs) (ofT_len []) (ofT_len rs)
      have g1 := Lib.hid g1
      have g2 := Lib.hid g2
      have g3 := Lib.hid g3
      go_wp2_with (first | (refine wpList_load_row rfl 112 (.tmp 3) rfl (w.heap.size + 1) rfl 112 (boolCells (ofT rs)).toArray (0, 0) _ hS Tryz.underlying112 rfl g1.out ?_) | (refine wpList_store_row rfl 112 (.tmp 2) (.tmp 27) rfl w.heap.size (boolCells (ofT rs)).toArray rfl rfl 112 (boolCells (ofT [])).toArray hR g1.out g3.out g2.out ?_))
      refine bodyPost_ret (v := .agg (boolCells (ofT rs)).toArray) (results_cell_row (p := 2) (ty := 112) (by first | exact Tryz.results92 | rfl) _ _ w.heap.size 112 (boolCells (ofT rs)).toArray (0, 0) _ rfl (setRow_heap _ _ _ _ _ _ hR) Tryz.underlying112 rfl g1.out) rfl ⟨rfl, hx.setRow (Nat.le_refl _) _⟩
end Go.Proofs.YtjdmgpefjehkaaaGreatDoor
namespace Go.Proofs.YtjdmgpefjehkaaaGreatDoor
open Go.RowKit
attribute [local go_sem] Instr.field asAgg
set_option maxRecDepth 100000

theorem set_at {w : World} {b : Nat} {bs : List Bool} (h : Blk w b 112 (boolCells bs)) (j : Nat) (hj : j < bs.length) : w.cell? ⟨b, j, none⟩ = some (.bool (bs.getD j false)) :=
  h.cell j (by simp [boolCells, hj])
theorem p_runs (b : Nat) (bs : List Bool) (hl : bs.length = 128) (w : World) (hA : Blk w b 112 (boolCells bs)) :
    Calls Tryz.prog 93 #[.pointer (some ⟨b, 0, none⟩)] w fun e w' => ∃ v, e = .returned v ∧ OwnRuns w w' v (normTo (fun i => bs.getD i false) bs.length) ∧ Ext w w' := by
  have hu := Tryz.underlying68
  have hus := Tryz.underlying112
  go_enter Tryz.func93, Tryz.ntmps93
  go_wp2
  go_loopg [3, 7] bs.length (fun g v i wr => ∃ k : Nat, k + g = bs.length ∧ i = .int .i64 k ∧ OwnRuns w wr v (normTo (fun i => bs.getD i false) k) ∧ Ext w wr)
  case atStart => exact ⟨0, by omega, rfl, World.ownsRow_nil w _ _ _, Ext.refl w⟩
  case round =>
    obtain ⟨k, hk, rfl, ho, hx⟩ := hrel
    have hk := Lib.hid hk
    rcases Nat.lt_or_ge k bs.length with hlt | hge
    · have hW := hA.ext hx
      have h1 := set_at hW k hlt
      have hall := Lib.hid (set_at hW)
      clear hW
      have hnl := normTo_len (fun i => bs.getD i false) k
      cases hb : bs.getD k false with
      | false =>
        rw [hb] at h1
        have hb := Lib.hid hb
        go_wp2
        go_quiet (fail)
        go_wp2
        go_roundg (bs.length - k - 1)
        case measure => have := hk.out; omega
        case rel => exact ⟨k + 1, by omega, by go_num, by rw [normTo, hb.out]; exact OwnRuns.ext ho ((Ext.refl _).drewN _), hx.drewN _⟩
      | true =>
        rw [hb] at h1
        have hb := Lib.hid hb
        have hap : ∀ (hnn : ¬ (0 < k ∧ bs.getD (k - 1) false = true)), Hid (normTo (fun i => bs.getD i false) (k + 1) = normTo (fun i => bs.getD i false) k ++ [⟨k, 1⟩]) := fun hnn => by
          show normTo _ (k + 1) = _
          rw [normTo, if_pos hb.out, if_neg hnn]
        rcases Nat.eq_zero_or_pos k with h0 | h0
        · have he := hap (by omega)
          clear hap
          have h0' : (k : Int) ≤ 0 := by omega
          clear h0
          go_wp2
          go_quiet (fail)
          go_wp2_with (at_builtin; refine app1 w.heap.size rfl _ _ _ 68 (.agg #[.int .i64 0, .int .i64 0]) 2 16 rfl Tryz.underlying41 run_info rfl (by omega) (by omega) u3 _ _ [.int .i64 k, .int .i64 1] rfl (by simp [Value.oneCell']) rfl rfl ho hx.le (by omega) ?_; intro v1 w2 ho3 hg)
          go_roundg (bs.length - k - 1)
          case measure => have := hk.out; omega
          case rel => exact ⟨k + 1, by omega, by go_num, by rw [he.out]; simpa [OwnRuns, runCells] using ho3, (hx.drewN _).own (OwnRuns.ext ho ((Ext.refl _).drewN _)) hg⟩
        · cases hp : bs.getD (k - 1) false with
          | false =>
            have h2 := hall.out (k - 1) (by omega)
            rw [hp] at h2
            have he := hap (by rw [hp]; simp)
            clear hap
            have hp := Lib.hid hp
            have h0' : (1 : Int) ≤ k := by omega
            go_wp2
            go_quiet (fail)
            go_wp2_with (at_builtin; refine app1 w.heap.size rfl _ _ _ 68 (.agg #[.int .i64 0, .int .i64 0]) 2 16 rfl Tryz.underlying41 run_info rfl (by omega) (by omega) u3 _ _ [.int .i64 k, .int .i64 1] rfl (by simp [Value.oneCell']) rfl rfl ho hx.le (by omega) ?_; intro v1 w2 ho3 hg)
            go_roundg (bs.length - k - 1)
            case measure => have := hk.out; omega
            case rel => exact ⟨k + 1, by omega, by go_num, by rw [he.out]; simpa [OwnRuns, runCells] using ho3, (hx.drewN _).own (OwnRuns.ext ho ((Ext.refl _).drewN _)) hg⟩
          | true =>
            have h2 := hall.out (k - 1) (by omega)
            rw [hp] at h2
            clear hap
            obtain ⟨s, r, hs, hr⟩ := normTo_last (fun i => bs.getD i false) k h0 hp
            have hbd := normTo_bd (fun i => bs.getD i false) k r (by rw [hs]; simp)
            have he : Hid (normTo (fun i => bs.getD i false) (k + 1) = s ++ [⟨r.f, r.c + 1⟩]) := by
              show normTo _ (k + 1) = _
              rw [normTo, if_pos hb.out, if_pos ⟨h0, hp⟩, hs, bumpLast_snoc]
            have hp := Lib.hid hp
            rw [hs] at ho hnl
            have hs := Lib.hid hs
            have h0' : (1 : Int) ≤ k := by omega
            have hlen : s.length + 1 ≤ k := by simpa using hnl
            obtain ⟨g, cap', hv, _, hg⟩ := World.ownsRow.form ho (by simp)
            obtain rfl := hv
            have c1 : wr.cell? ⟨g, s.length * 2 + 1, none⟩ = some (.int .i64 r.c) := (ho.cellAt (s.length * 2 + 1) (by simp; omega)).trans (by
              rw [List.flatMap_append, List.getElem?_append_right (by rw [flat_len]; omega), flat_len]
              have : s.length * 2 + 1 - s.length * 2 = 1 := by omega
              rw [this]; rfl)
            have z1 := ho.frozenAt (s.length * 2 + 1)
            simp only [List.length_append, List.length_cons, List.length_nil, Nat.zero_add]
            go_wp2
            go_quiet (fail)
            go_wp2
            have hst := World.ownsRow.stored (OwnRuns.ext ho ((Ext.refl _).drewN nq)) (s.length * 2 + 1) (.int .i64 (r.c + 1))
            rw [set_cells] at hst
            go_roundg (bs.length - k - 1)
            case measure => have := hk.out; omega
            case rel => exact ⟨k + 1, by omega, by go_num, by rw [he.out]; simpa [OwnRuns] using hst.1, (hx.drewN _).grown hst.2 (fun i hi => by obtain rfl : g = i := (by simpa using hi); exact (World.ownsRow.lt ho g (by simp [Value.ownBlock])).1)⟩
    · have : normTo (fun i => bs.getD i false) bs.length = normTo (fun i => bs.getD i false) k := by
        have : k = bs.length := by have := hk.out; omega
        rw [this]
      rw [← this] at ho
      go_wp2
      go_ret
      exact ⟨_, rfl, ho, hx⟩

end Go.Proofs.YtjdmgpefjehkaaaGreatDoor
namespace Go.Proofs.YtjdmgpefjehkaaaGreatDoor
open Go.RowKit
attribute [local go_sem] Instr.field asAgg
set_option maxRecDepth 100000

theorem zero_size : Tryz.zeroCells112.size = 128 := by
  have h : Tryz.zeroCells112.size = 128 := by kernel_rfl
  exact h
theorem cells_size (l : List Bool) (h : l.length = 128) : Tryz.zeroCells112.size = (boolCells l).toArray.size := by
  rw [zero_size]
  simp [boolCells, h]
theorem norm_of (rs : List Run) : normTo (fun i => (ofT rs).getD i false) 128 = norm fun t => (ixT rs t).isSome :=
  normTo_congr 128 fun i hi => by simp [ofT, hi]
theorem own_lower {w0 w1 w : World} {v : Value} {rs : List Run} (h : OwnRuns w1 w v rs) (hx : Ext w0 w1) : OwnRuns w0 w v rs :=
  ⟨h.1, h.2.imp id fun ⟨g, cap, cur, h1, h2, h3⟩ => ⟨g, cap, cur, h1, Nat.le_trans hx.le h2, h3⟩⟩
theorem p_Normal (A : Option Addr) (ca : Nat) (rs : List Run) (w : World) (hA : Runs w A rs) :
    Calls Tryz.prog 75 #[.slice A rs.length ca] w fun e w' => ∃ v, e = .returned v ∧ OwnRuns w w' v (norm fun t => (ixT rs t).isSome) ∧ Ext w w' := by
  go_enter Tryz.func75, Tryz.ntmps75
  go_wp2_with fail
  refine (p_of A ca rs _ hA).mono ?_
  rintro e w1 ⟨rfl, hx1⟩
  have g1 := Lib.hid (set_size (ofT rs) (ofT_len rs))
  have g2 := Lib.hid (set_one (ofT rs))
  have g3 := Lib.hid (cells_size (ofT rs) (ofT_len rs))
  have hN : (w1.alloc (.cells Tryz.zeroCells112 112)).heap[w1.heap.size]? = _ := heap_alloc_new w1 _
  go_wp2_with (refine wpList_store_row rfl 112 (.tmp 3) (.tmp 5) rfl w1.heap.size (boolCells (ofT rs)).toArray rfl rfl 112 Tryz.zeroCells112 hN g1.out g3.out g2.out ?_)
  have hx2 := (hx1.alloc (.cells Tryz.zeroCells112 112)).setRow hx1.le (boolCells (ofT rs)).toArray
  have hK : Blk ((w1.alloc (.cells Tryz.zeroCells112 112)).setRow w1.heap.size (boolCells (ofT rs)).toArray) w1.heap.size 112 (boolCells (ofT rs)) := setRow_heap _ _ _ _ _ _ hN
  refine (p_runs w1.heap.size (ofT rs) (ofT_len rs) _ hK).mono ?_
  rintro e w2 ⟨v, rfl, hv, hx3⟩
  rw [ofT_len, norm_of] at hv
  go_wp2
  go_ret
  exact ⟨v, rfl, own_lower hv hx2, hx2.trans hx3⟩
theorem nodup_of_len : ∀ (l m : List Int), m.Nodup → (∀ x ∈ m, x ∈ l) → l.length ≤ m.length → l.Nodup
  | [], _, _, _, _ => List.nodup_nil
  | x :: l, m, hm, hs, hl => by
    have hx : ¬ ∀ y ∈ m, y ∈ l := fun h => by
      have := List.Nodup.length_le_of_subset hm h
      simp at hl
      omega
    have hxm : x ∈ m := Classical.byContradiction fun h => hx fun y hy => by
      rcases List.mem_cons.1 (hs y hy) with rfl | h2
      · exact absurd hy h
      · exact h2
    refine List.nodup_cons.2 ⟨fun h => hx fun y hy => ?_, nodup_of_len l (m.erase x) (hm.erase x) (fun y hy => ?_) ?_⟩
    · rcases List.mem_cons.1 (hs y hy) with rfl | h2
      · exact h
      · exact h2
    · have h2 := (List.Nodup.mem_erase_iff hm).1 hy
      rcases List.mem_cons.1 (hs y h2.2) with h3 | h3
      · exact absurd h3 h2.1
      · exact h3
    · rw [List.length_erase_of_mem hxm]
      simp at hl
      omega
theorem nodup_iff_len (l m : List Int) (hm : m.Nodup) (h : ∀ x, x ∈ m ↔ x ∈ l) : l.Nodup ↔ l.length = m.length :=
  ⟨fun hl => ((List.perm_ext_iff_of_nodup hl hm).2 fun x => (h x).symm).length_eq, fun he => nodup_of_len l m hm (fun x hx => (h x).1 hx) (by omega)⟩
theorem seq_bd0 (rs : List Run) : ∀ t ∈ seq rs, 0 ≤ t ∧ t < 128 := by
  intro t ht
  obtain ⟨r, _, hm⟩ := List.mem_flatMap.mp ht
  obtain ⟨a, ha, rfl⟩ := List.mem_map.mp hm
  have hb := clip_bd r
  have := List.mem_range.mp ha
  omega
theorem nodup_norm (rs : List Run) : (seq rs).Nodup ↔ (seq rs).length = (seq (norm fun t => (ixT rs t).isSome)).length := by
  refine nodup_iff_len _ _ ?_ fun x => ?_
  · rw [seq_norm]
    refine List.Pairwise.map _ (fun a b h => ?_) (List.Pairwise.filter _ List.nodup_range)
    omega
  · by_cases hx : 0 ≤ x ∧ x < 128
    · have h1 : (seq (norm fun t => (ixT rs t).isSome)).contains x = (ixT rs x).isSome := in_norm (fun t => (ixT rs t).isSome) x hx.1 hx.2
      rw [ixT_isSome rs x] at h1
      rw [← List.contains_iff_mem, ← List.contains_iff_mem, h1]
    · exact ⟨fun h => absurd (seq_bd0 _ x h) hx, fun h => absurd (seq_bd0 _ x h) hx⟩
theorem norm_ok (p : Int → Bool) : ∀ r ∈ norm p, r.ok := normTo_ok _ 128 (by omega)
theorem norm_len (p : Int → Bool) : (norm p).length ≤ 128 := normTo_len _ 128
theorem p_Disjoint (A : Option Addr) (ca : Nat) (rs : List Run) (w : World) (hA : Runs w A rs) :
    Calls Tryz.prog 43 #[.slice A rs.length ca] w fun e w' => e = .returned (.bool (decide (seq rs).Nodup)) ∧ Ext w w' := by
  have hb := seq_le rs
  have hn := norm_len (fun t => (ixT rs t).isSome)
  have hr := Lib.hid (nodup_norm rs)
  go_enter Tryz.func43, Tryz.ntmps43
  go_wp2_with fail
  refine (size_any A ca rs _ hA).mono ?_
  rintro e w1 ⟨rfl, hx1⟩
  go_wp2_with fail
  refine (p_Normal A ca rs _ (hA.ext hx1)).mono ?_
  rintro e w2 ⟨v, rfl, hv, hx2⟩
  obtain ⟨B, c, rfl, hc, hB⟩ := hv.runs (fun r hr => norm_ok _ r hr) (by omega)
  go_wp2_with fail
  refine (size_any B c _ _ hB).mono ?_
  rintro e w3 ⟨rfl, hx3⟩
  go_wp2
  go_ret
  refine ⟨congrArg (fun b => Ending.returned (Value.bool b)) (?_ : _ = decide _), (hx1.trans hx2).trans hx3⟩
  rw [Bool.eq_iff_iff, decide_eq_true_iff, hr.out, beq_iff_eq]
  omega
end Go.Proofs.YtjdmgpefjehkaaaGreatDoor
namespace Go.Proofs.YtjdmgpefjehkaaaGreatDoor
open Go.RowKit
attribute [local go_sem] Instr.field asAgg
set_option maxRecDepth 100000

def joinS (out : List Run) (r : Run) : List Run :=
  if r.c = 0 then out else
    match out.getLast? with
    | some q => if q.f + q.c = r.f then out.dropLast ++ [⟨q.f, q.c + r.c⟩] else out ++ [r]
    | none => [r]
def joinT (rs : List Run) : List Run := rs.foldl (fun o r => joinS o (clip r)) []
theorem joinT_take (rs : List Run) (k : Nat) (h : k < rs.length) : joinT (rs.take (k + 1)) = joinS (joinT (rs.take k)) (clip rs[k]) := by
  unfold joinT
  rw [List.take_succ_eq_append_getElem h, List.foldl_append]
  rfl
theorem joinS_zero (out : List Run) (r : Run) (h : r.c = 0) : joinS out r = out := by simp [joinS, h]
theorem joinS_nil (r : Run) (h : r.c ≠ 0) : joinS [] r = [r] := by simp [joinS, h]
theorem joinS_add (s : List Run) (q r : Run) (h : r.c ≠ 0) (h2 : q.f + q.c = r.f) : joinS (s ++ [q]) r = s ++ [⟨q.f, q.c + r.c⟩] := by
  simp [joinS, h, h2]
theorem joinS_new (s : List Run) (q r : Run) (h : r.c ≠ 0) (h2 : q.f + q.c ≠ r.f) : joinS (s ++ [q]) r = s ++ [q] ++ [r] := by
  simp [joinS, h, h2]
def JBd (out : List Run) : Prop := ∀ q ∈ out, 0 ≤ q.f ∧ 1 ≤ q.c ∧ q.f + q.c ≤ 128
theorem joinS_bd (out : List Run) (r : Run) (ho : JBd out) (h0 : 0 ≤ r.f) (h1 : 0 ≤ r.c) (h2 : r.f + r.c ≤ 128) : JBd (joinS out r) := by
  by_cases hz : r.c = 0
  · rwa [joinS_zero _ _ hz]
  · by_cases hn : out = []
    · subst hn
      rw [joinS_nil _ hz]
      intro q hq
      obtain rfl := List.mem_singleton.1 hq
      omega
    · obtain ⟨s, q, rfl⟩ := snoc_of_ne hn
      by_cases he : q.f + q.c = r.f
      · rw [joinS_add _ _ _ hz he]
        intro x hx
        rcases List.mem_append.1 hx with h | h
        · exact ho x (List.mem_append_left _ h)
        · obtain rfl := List.mem_singleton.1 h
          have := ho q (by simp)
          dsimp only
          omega
      · rw [joinS_new _ _ _ hz he]
        intro x hx
        rcases List.mem_append.1 hx with h | h
        · exact ho x h
        · obtain rfl := List.mem_singleton.1 h
          omega
theorem joinS_len (out : List Run) (r : Run) : (joinS out r).length ≤ out.length + 1 := by
  by_cases hz : r.c = 0
  · rw [joinS_zero _ _ hz]; omega
  · by_cases hn : out = []
    · subst hn
      rw [joinS_nil _ hz]; simp
    · obtain ⟨s, q, rfl⟩ := snoc_of_ne hn
      by_cases he : q.f + q.c = r.f
      · rw [joinS_add _ _ _ hz he]; simp
      · rw [joinS_new _ _ _ hz he]; simp
theorem own_drewN {w : World} {base : Nat} {e : TypeId} {size n : Nat} {v : Value} {xs : List Value} (h : w.ownsRow base e size v n xs) (m : Nat) : (w.drewN m).ownsRow base e size v n xs :=
  have k := (Ext.refl w).drewN m
  h.kept (row := none) ⟨k.os, k.tape, k.output, k.size, fun i hi _ => k.block i hi⟩ (by cases v.ownBlock <;> simp)
set_option maxHeartbeats 4000000 in
theorem p_Join (A : Option Addr) (cap : Nat) (rs : List Run) (w : World) (hA : Runs w A rs) (hsm : (rs.length : Int) ≤ 1000000000) :
    Calls Tryz.prog 71 #[.slice A rs.length cap] w fun e w' => ∃ v, e = .returned v ∧ OwnRuns w w' v (joinT rs) ∧ Ext w w' := by
  have hl := hA.len
  have hu := Tryz.underlying68
  go_enter Tryz.func71, Tryz.ntmps71
  go_wp2
  go_loopg [3, 9] rs.length (fun g v i wr => ∃ k : Nat, k + g = rs.length ∧ i = .int .i64 k ∧ OwnRuns w wr v (joinT (rs.take k)) ∧ Hid (JBd (joinT (rs.take k))) ∧ ((joinT (rs.take k)).length : Int) ≤ k ∧ Ext w wr)
  case atStart => exact ⟨0, by omega, rfl, World.ownsRow_nil w _ _ _, (fun _ h => absurd h (by simp [joinT])), by simp [joinT], Ext.refl w⟩
  case round =>
    obtain ⟨k, hk, rfl, ho, hbd, hln, hx⟩ := hrel
    have hk := Lib.hid hk
    rcases Nat.lt_or_ge k rs.length with hlt | hge
    · obtain ⟨b, o, rfl, h1, h2⟩ := (hA.ext hx).at_ hlt
      obtain ⟨hb1, hb2, hb3⟩ := clip_bd rs[k]
      have he := Lib.hid (joinT_take rs k hlt)
      have hnb := Lib.hid (joinS_bd _ _ hbd.out hb1 (by omega) (by omega) : JBd (joinS (joinT (rs.take k)) (clip rs[k])))
      have hnl := Lib.hid (joinS_len (joinT (rs.take k)) (clip rs[k]))
      generalize hout : joinT (rs.take k) = out at *
      go_wp2_with fail
      refine (clip_any rs[k] (hA.okAt hlt) _).mono ?_
      rintro e w1 ⟨rfl, hx1⟩
      have hx2 := hx.trans (Ext.trans ((Ext.refl _).alloc _) hx1)
      have hB := (Blk.new wr 68 [.int .i64 rs[k].f, .int .i64 rs[k].c]).ext hx1
      have ho1 := OwnRuns.ext ho (Ext.trans ((Ext.refl _).alloc _) hx1)
      have hle := hx.le
      have c0 := hB.cell 0 rfl
      have c1 := hB.cell 1 rfl
      have z0 := hB.frozen 0
      have z1 := hB.frozen 1
      obtain ⟨O, co, rfl, hco⟩ := own_slice ho1
      have far : some wr.heap.size ≠ (Value.slice O out.length co).ownBlock := fun h => Nat.lt_irrefl _ (World.ownsRow.lt ho _ h.symm).2
      generalize wr.heap.size = bk at hB hle c0 c1 z0 z1 far ⊢
      have ho2 := ownsRow_setCell_other (ownsRow_setCell_other ho1 (a := ⟨bk, 0, none⟩) (Ne.symm far) (.int .i64 (clip rs[k]).f)) (a := ⟨bk, 1, none⟩) (Ne.symm far) (.int .i64 (clip rs[k]).c)
      have hB2 := (hB.set 0 (.int .i64 (clip rs[k]).f)).set 1 (.int .i64 (clip rs[k]).c)
      have hx3 := (hx2.set (p := ⟨bk, 0, none⟩) hle (.int .i64 (clip rs[k]).f)).set (p := ⟨bk, 1, none⟩) hle (.int .i64 (clip rs[k]).c)
      by_cases hz : (clip rs[k]).c = 0
      · have hj := Lib.hid (joinS_zero out (clip rs[k]) hz)
        rw [hz] at ho2 hx3
        go_wp2
        go_roundg (rs.length - k - 1)
        case measure => have := hk.out; omega
        case rel =>
          have h6 := he.out.trans hj.out
          have h7 := hnb.out
          rw [hj.out] at h7
          exact ⟨k + 1, by have := hk.out; omega, by go_num, by rw [h6]; exact ho2, by rw [h6]; exact h7, by rw [h6]; omega, hx3⟩
      · have hz1 : 1 ≤ (clip rs[k]).c := by omega
        by_cases hn : out = []
        · subst hn
          have hj := Lib.hid (joinS_nil (clip rs[k]) hz)
          clear hz
          go_wp2
          go_quiet (fail)
          have ho3 := OwnRuns.ext ho2 ((Ext.refl _).drewN nq)
          have hx4 := hx3.drewN nq
          go_wp2_with (at_builtin; refine app2 w.heap.size rfl _ _ _ 68 (.agg #[.int .i64 0, .int .i64 0]) 2 16 rfl Tryz.underlying41 run_info rfl (by omega) (by omega) (.slice O 0 co) _ _ [.int .i64 (clip rs[k]).f, .int .i64 (clip rs[k]).c] rfl (by simp [Value.oneCell']) rfl _ rfl (by simp) ho3 hx4.le (by omega) ?_; intro v1 w2 ho5 hg)
          go_roundg (rs.length - k - 1)
          case measure => have := hk.out; omega
          case rel =>
            have h6 := he.out.trans hj.out
            have h7 := hnb.out
            rw [hj.out] at h7
            exact ⟨k + 1, by have := hk.out; omega, by go_num, by rw [h6]; exact ho5, by rw [h6]; exact h7, by rw [h6]; simp; omega, hx4.own ho3 hg⟩
        · obtain ⟨s, q, rfl⟩ := snoc_of_ne hn
          clear hn
          have hq := hbd.out q (by simp)
          obtain ⟨hq1, hq2, hq3⟩ := hq
          obtain ⟨g, cap', hv, _, hg0⟩ := World.ownsRow.form ho2 (by simp)
          simp only [Value.slice.injEq] at hv
          obtain ⟨rfl, _, rfl⟩ := hv
          have k0 : ((s ++ [q]).flatMap runCells)[s.length * 2]? = some (.int .i64 q.f) := by
            rw [List.flatMap_append, List.getElem?_append_right (Nat.le_of_eq (flat_len s)), flat_len, Nat.sub_self]
            rfl
          have k1 : ((s ++ [q]).flatMap runCells)[s.length * 2 + 1]? = some (.int .i64 q.c) := by
            rw [List.flatMap_append, List.getElem?_append_right (by have := flat_len s; omega), flat_len, Nat.add_sub_cancel_left]
            rfl
          have e0 := (World.ownsRow.cellAt ho1 (s.length * 2) (by simp only [List.length_append, List.length_cons, List.length_nil]; omega)).trans k0
          have e1 := (World.ownsRow.cellAt ho1 (s.length * 2 + 1) (by simp only [List.length_append, List.length_cons, List.length_nil]; omega)).trans k1
          clear k0 k1
          have hn1 : ¬ bk = g := fun h => far (by rw [h]; rfl)
          have hn2 : ¬ g = bk := fun h => hn1 h.symm
          have y1 := World.ownsRow.frozenAt ho1 (s.length * 2 + 1)
          simp only [List.length_append, List.length_cons, List.length_nil, Nat.zero_add] at *
          by_cases hqr : q.f + q.c = (clip rs[k]).f
          · have hj := Lib.hid (joinS_add s q (clip rs[k]) hz hqr)
            clear hz
            go_wp2
            go_quiet (fail)
            go_wp2
            go_region
            go_wp2
            have hst := World.ownsRow.stored (own_drewN ho2 (nq + 1)) (s.length * 2 + 1) (.int .i64 (q.c + (clip rs[k]).c))
            rw [set_cells] at hst
            go_roundg (rs.length - k - 1)
            case measure => have := hk.out; omega
            case rel =>
              have h6 := he.out.trans hj.out
              have h7 := hnb.out
              rw [hj.out] at h7
              exact ⟨k + 1, by have := hk.out; omega, by go_num, by rw [h6]; simpa [OwnRuns] using hst.1, by rw [h6]; exact h7, by rw [h6]; simp; omega, (hx3.drewN (nq + 1)).grown hst.2 (fun i hi => by obtain rfl : g = i := (by simpa using hi); exact (World.ownsRow.lt ho2 g (by simp [Value.ownBlock])).1)⟩
          · have hj := Lib.hid (joinS_new s q (clip rs[k]) hz hqr)
            clear hz
            go_wp2
            go_quiet (fail)
            have ho3 := own_drewN ho2 nq
            have hx4 := hx3.drewN nq
            go_wp2_with (at_builtin; refine app2 w.heap.size rfl _ _ _ 68 (.agg #[.int .i64 0, .int .i64 0]) 2 16 rfl Tryz.underlying41 run_info rfl (by omega) (by omega) (.slice (some ⟨g, 0, none⟩) (s.length + 1) co) _ _ [.int .i64 (clip rs[k]).f, .int .i64 (clip rs[k]).c] rfl (by simp [Value.oneCell']) rfl _ rfl (by simp) (by simpa using ho3) hx4.le (by omega) ?_; intro v1 w2 ho5 hg)
            go_roundg (rs.length - k - 1)
            case measure => have := hk.out; omega
            case rel =>
              have h6 := he.out.trans hj.out
              have h7 := hnb.out
              rw [hj.out] at h7
              exact ⟨k + 1, by have := hk.out; omega, by go_num, by rw [h6]; simpa [OwnRuns, runCells] using ho5, by rw [h6]; exact h7, by rw [h6]; simp; omega, hx4.own ho3 hg⟩
    · have : rs.take k = rs := List.take_of_length_le hge
      rw [this] at ho
      go_wp2
      go_ret
      exact ⟨_, rfl, ho, hx⟩
end Go.Proofs.YtjdmgpefjehkaaaGreatDoor
