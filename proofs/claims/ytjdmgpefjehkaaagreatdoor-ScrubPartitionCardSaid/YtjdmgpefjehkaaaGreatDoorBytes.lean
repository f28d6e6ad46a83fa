/- Numbers of bytes: scrub.Bytes and dasdref15.Bytes. -/
import Derived.Test.YtjdmgpefjehkaaaGreatDoorRefs8
import Derived.Test.YtjdmgpefjehkaaaGreatDoorFindP
import Derived.Deep.RegionHeld3
namespace Go.Proofs.YtjdmgpefjehkaaaGreatDoor
open Go.RowKit
attribute [local go_sem] Instr.field asAgg
set_option maxRecDepth 100000

def byteI (ls : List Label) (r : Ref) : Int := 1024 * ((seq (findL ls r).ext).length : Int)
def bytesS (ls : List Label) : List Int := (refsS ls).map (byteI ls)
theorem findL_ext {ls : List Label} (hse : ∀ l ∈ ls, (l.ext.length : Int) ≤ 1000000) (r : Ref) : ((findL ls r).ext.length : Int) ≤ 1000000 := by
  cases h : ixR ls r with
  | none => rw [findL_none h]; decide
  | some i => rw [findL_some h (ixR_lt h)]; exact hse _ (List.getElem_mem _)
theorem byteI_bd {ls : List Label} (hse : ∀ l ∈ ls, (l.ext.length : Int) ≤ 1000000) (r : Ref) : 0 ≤ byteI ls r ∧ byteI ls r ≤ 131072000000 := by
  have h1 := findL_ext hse r
  have h2 := seq_le (findL ls r).ext
  unfold byteI
  omega
theorem map_snoc {α β : Type} (f : α → β) (l : List α) (k : Nat) (h : k < l.length) : (l.take (k + 1)).map f = (l.take k).map f ++ [f l[k]] := by
  rw [List.take_succ_eq_append_getElem h, List.map_append]; rfl
set_option maxHeartbeats 1000000 in
theorem p_Bytes (nm : ByteArray) (tr : Int) (A : Option Addr) (c : Nat) (ls : List Label) (hsm : (ls.length : Int) ≤ 1000000) (hse : ∀ l ∈ ls, (l.ext.length : Int) ≤ 1000000) (w : World) (hA : Labels w A ls) :
    Calls Tryz.prog 13 #[.agg #[.string nm, .int .i64 tr, .slice A ls.length c]] w fun e w' => ∃ B cb, e = .returned (.slice B (bytesS ls).length cb) ∧ Ints w' B (bytesS ls) ∧ Ext w w' := by
  have hu2 := Tryz.underlying24
  have hu3 := Tryz.underlying43
  have hu4 := Tryz.underlying40
  have hx0 := (Ext.refl w).alloc (.cells #[.string nm, .int .i64 tr, .slice A ls.length c] 24)
  go_enter Tryz.func13, Tryz.ntmps13
  go_wp2_with fail
  refine (p_Refs nm tr A c ls _ (hA.ext hx0)).mono ?_
  rintro e w2 ⟨B, cb, rfl, hRf, hx2, hBf⟩
  have hT2 := (Blk.new w 24 [.string nm, .int .i64 tr, .slice A ls.length c]).ext hx2
  have hy2 := hx0.trans hx2
  have hrl : (refsS ls).length ≤ ls.length := by have := sortR_len (refsOf ls); have := refsOf_len ls; unfold refsS; omega
  have hln : (bytesS ls).length = (refsS ls).length := by unfold bytesS; rw [List.length_map]
  have hln2 := Lib.hid hln
  clear hln
  go_wp2
  go_loopg [3, 11] (refsS ls).length (fun g v i wr => ∃ k : Nat, k + g = (refsS ls).length ∧ i = .int .i64 k ∧ wr.ownsRow w2.heap.size 3 1 v k (intCells (((refsS ls).take k).map (byteI ls))) ∧ Blk wr w.heap.size 24 [.string nm, .int .i64 tr, .slice A ls.length c] ∧ Ext w2 wr)
  case atStart => exact ⟨0, by omega, rfl, by simpa [intCells] using World.ownsRow_nil w2 w2.heap.size 3 1, hT2, Ext.refl _⟩
  case round =>
    obtain ⟨k, hk, rfl, ho, hT, hx⟩ := hrel
    have hk2 := Lib.hid hk
    have hkR : k ≤ (refsS ls).length := by omega
    clear hk
    have d0 := hT.cell 0 rfl
    have d1 := hT.cell 1 rfl
    have d2 := hT.cell 2 rfl
    have dl := hT.lt
    rcases Nat.lt_or_ge k (refsS ls).length with hlt | hge
    · obtain ⟨b, o, rfl, a0, a1⟩ := (hRf.ext hx).at_ hlt
      have hsn := Lib.hid (map_snoc (byteI ls) (refsS ls) k hlt)
      generalize (refsS ls)[k] = r at *
      have HF := fun w => p_Find nm tr A c ls hse r w
      have hbd := byteI_bd hse r
      have hfe := findL_ext hse r
      have hsq := seq_le (findL ls r).ext
      have hn0 : (0 : Int) ≤ ((seq (findL ls r).ext).length : Int) := by omega
      have hnb : ((seq (findL ls r).ext).length : Int) ≤ 128000000 := by omega
      have hbi : Hid (byteI ls r = 1024 * ((seq (findL ls r).ext).length : Int)) := rfl
      generalize byteI ls r = bi at *
      generalize findL ls r = l at *
      go_wp2_with fail
      have hx4 := hx.alloc (.cells #[.int .i64 r.id, .int .i64 r.unit] 40)
      refine (HF _ (hA.ext (hy2.trans hx4))).mono ?_
      clear HF
      rintro e w5 ⟨D, cD, rfl, hD, hx5⟩
      have hL := Blk.new w5 43 [.int .i64 l.id, .int .i64 l.unit, .string l.name, .string l.note, .slice D l.ext.length cD]
      have hx6 := (hx4.trans hx5).alloc (.cells #[.int .i64 l.id, .int .i64 l.unit, .string l.name, .string l.note, .slice D l.ext.length cD] 43)
      have hD6 := hD.ext ((Ext.refl w5).alloc (.cells #[.int .i64 l.id, .int .i64 l.unit, .string l.name, .string l.note, .slice D l.ext.length cD] 43))
      have he6 := (((Ext.refl wr).alloc (.cells #[.int .i64 r.id, .int .i64 r.unit] 40)).trans hx5).alloc (.cells #[.int .i64 l.id, .int .i64 l.unit, .string l.name, .string l.note, .slice D l.ext.length cD] 43)
      have ho6 := own_ext ho he6
      have hT6 := hT.ext he6
      have HS := fun w => size_any D cD l.ext w
      generalize ((seq l.ext).length : Int) = n at *
      go_wp2_with fail
      refine (HS _ hD6).mono ?_
      clear HS
      rintro e w7 ⟨rfl, hx7⟩
      have hx8 := hx6.trans hx7
      have ho8 := own_ext ho6 hx7
      have hT8 := hT6.ext hx7
      have hn8 : n * 8 * 128 = bi := by have := hbi.out; omega
      have hn9 := Lib.hid hn8
      clear hn8
      go_wp2_with (at_builtin; refine app2 w2.heap.size rfl _ _ _ 3 (.int .i64 0) 1 8 rfl Tryz.underlying26 int_info rfl (by omega) (by omega) u3 _ _ [.int .i64 (n * 8 * 128)] rfl (by simp [Value.oneCell']) rfl _ rfl (by simp) ho8 hx8.le (by omega) ?_; intro v1 w9 oB gA)
      go_roundg ((refsS ls).length - k - 1)
      case measure => have := hk2.out; omega
      case rel => exact ⟨k + 1, by omega, by go_num, by rw [hsn.out, ← intCells_snoc, ← hn9.out]; exact oB, hT8.grown gA (own_far ho8 hT8 (by decide)), hx8.own ho8 gA⟩
    · have hkk : k = (refsS ls).length := by omega
      rw [List.take_of_length_le hge] at ho
      obtain ⟨D, cD, rfl, _⟩ := own_slice ho
      go_wp2
      go_ret
      refine ⟨D, cD, by rw [hln2.out, ← hkk]; rfl, ⟨Sl.own ho, fun y hy => ?_, by rw [hln2.out]; omega⟩, hy2.trans hx⟩
      obtain ⟨r, _, rfl⟩ := List.mem_map.1 hy
      have := byteI_bd hse r
      exact ⟨by omega, by omega⟩
end Go.Proofs.YtjdmgpefjehkaaaGreatDoor
