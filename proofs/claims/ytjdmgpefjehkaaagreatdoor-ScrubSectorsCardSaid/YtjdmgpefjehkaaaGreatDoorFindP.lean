/- What a table finds of a reference, in the program. -/
import Derived.Test.YtjdmgpefjehkaaaGreatDoorFind
import Derived.Test.YtjdmgpefjehkaaaGreatDoorApp
import Derived.Test.YtjdmgpefjehkaaaGreatDoorStay
import Derived.Test.YtjdmgpefjehkaaaGreatDoorRef05
namespace Go.Proofs.YtjdmgpefjehkaaaGreatDoor
open Go.RowKit
attribute [local go_sem] Instr.field asAgg
set_option maxRecDepth 100000

theorem p_Clone (A : Option Addr) (n c : Nat) (rs : List Run) (hn : n = rs.length) (hl : (rs.length : Int) ≤ 1000000) (w : World) (hA : Runs w A rs) :
    Calls Tryz.prog 49 #[.slice A n c] w fun e w' => ∃ B cB, e = .returned (.slice B n cB) ∧ Stays (fun b => b < w.heap.size) w' (Runs · B rs) ∧ Ext w w' := by
  subst hn
  have hq := fun w a l c => Lib.run_eql_slice_nil (P := Tryz.prog) w 41 68 a l c 0 0 Tryz.underlying41
  cases A with
  | none =>
    have hnil : rs = [] := by
      cases rs with
      | nil => rfl
      | cons r l => obtain ⟨_, _, h, _⟩ := hA.sl (by simp [runCells]); cases h
    subst hnil
    go_enter Tryz.func49, Tryz.ntmps49
    go_wp2
    go_ret
    exact ⟨none, 0, rfl, fun _ _ => Runs.nil _ _, Ext.refl _⟩
  | some a =>
    have hO := own_new w w.heap.size 68 2 (Nat.le_refl _)
    have hx := (Ext.refl w).alloc (.cells #[] 68)
    go_enter Tryz.func49, Tryz.ntmps49
    go_wp2_with (at_builtin; refine app_src w.heap.size rfl _ _ _ 68 (.agg #[.int .i64 0, .int .i64 0]) 2 16 rfl Tryz.underlying41 run_info rfl (by omega) (by omega) _ 0 [] (some a) rs.length c (rs.flatMap runCells) rfl rfl (runs_len _) (runs_one _) (hA.sl.ext hx) hO hx.le (by omega) ?_; intro v1 w2 ho hg _)
    simp only [Nat.zero_add, List.nil_append] at ho
    obtain ⟨B, cB, rfl, _⟩ := own_slice ho
    go_ret
    exact ⟨B, cB, rfl, Runs.stays (SlOut.own ho fun b h => Nat.not_lt.2 h) ⟨Sl.own ho, hA.ok, hA.len⟩, hx.own hO hg⟩

theorem p_isR (l : Label) (B : Option Addr) (cB : Nat) (r : Ref) (g : Nat) (w : World) (h0 : w.cell? ⟨g, 0, none⟩ = some (.int .i64 r.id)) (h1 : w.cell? ⟨g, 1, none⟩ = some (.int .i64 r.unit)) :
    Calls Tryz.prog 80 #[.agg #[.int .i64 l.id, .int .i64 l.unit, .string l.name, .string l.note, .slice B l.ext.length cB], .pointer (some ⟨g, 0, none⟩)] w fun e w' => e = .returned (.bool (isR r l)) ∧ Ext w w' := by
  have hu3 := Tryz.underlying43
  have hu4 := Tryz.underlying40
  have hx := (Ext.refl w).alloc (.cells #[.int .i64 l.id, .int .i64 l.unit, .string l.name, .string l.note, .slice B l.ext.length cB] 43)
  have hb := World.block_lt_of_cell? w _ h0
  dsimp only at hb
  unfold isR
  cases q0 : (r.id == 0) with
  | true =>
    have q1 : (r.id != 0) = false := by simp [bne, q0]
    go_enter Tryz.func80, Tryz.ntmps80
    go_wp2
    go_ret
    exact ⟨rfl, hx⟩
  | false =>
    have q1 : (r.id != 0) = true := by simp [bne, q0]
    cases q2 : (l.id == r.id) with
    | false =>
      go_enter Tryz.func80, Tryz.ntmps80
      go_wp2
      go_ret
      exact ⟨rfl, hx⟩
    | true =>
      cases q3 : (l.unit == r.unit) with
      | false =>
        go_enter Tryz.func80, Tryz.ntmps80
        go_wp2
        go_ret
        exact ⟨rfl, hx⟩
      | true =>
        go_enter Tryz.func80, Tryz.ntmps80
        go_wp2
        go_ret
        exact ⟨rfl, hx⟩

theorem p_IxF (A : Option Addr) (c : Nat) (ls : List Label) (r : Ref) (g : Nat) (w : World) (hA : Labels w A ls) (h0 : w.cell? ⟨g, 0, none⟩ = some (.int .i64 r.id)) (h1 : w.cell? ⟨g, 1, none⟩ = some (.int .i64 r.unit)) :
    Calls Tryz.prog 79 #[.slice A ls.length c, .func (.func 80) #[] #[.pointer (some ⟨g, 0, none⟩)]] w fun e w' => e = .returned (.int .i64 (ixI ls r)) ∧ Ext w w' := by
  have hu3 := Tryz.underlying43
  have hlen := hA.len
  go_enter Tryz.func79, Tryz.ntmps79
  go_wp2
  go_loopg [8] ls.length (fun gk i wr => ∃ k : Nat, k + gk = ls.length ∧ i = .int .i64 k ∧ Hid (∀ j (h : j < ls.length), j < k → isR r ls[j] = false) ∧ Ext w wr)
  case atStart => exact ⟨0, by omega, rfl, fun j _ h => by omega, Ext.refl _⟩
  case round =>
    obtain ⟨k, hk, rfl, hn, hx⟩ := hrel
    have hk := Lib.hid hk
    rcases Nat.lt_or_ge k ls.length with hlt | hge
    · obtain ⟨b, o, B, cB, rfl, a0, a1, a2, a3, a4, _, _⟩ := hA.at_ hlt
      have c0 := hx.cell a0
      have c1 := hx.cell a1
      have c2 := hx.cell a2
      have c3 := hx.cell a3
      have c4 := hx.cell a4
      have hyes := fun h => Lib.hid (ixR_at hlt hn.out h)
      have hno := fun h => Lib.hid (all_snoc (P := fun l : Label => isR r l = false) hn.out hlt h)
      have HP := fun w => p_isR ls[k] B cB r g w
      go_wp2_with fail
      refine (HP _ (hx.cell h0) (hx.cell h1)).mono ?_
      clear HP
      rintro e w1 ⟨rfl, hx1⟩
      cases hq : isR r ls[k] with
      | true =>
        have hf := hyes hq
        clear hyes hno
        have hq2 := Lib.hid hq
        clear hq
        go_wp2
        go_ret
        exact ⟨by rw [show ixI ls r = (k : Int) by unfold ixI; rw [hf.out]]; rfl, hx.trans hx1⟩
      | false =>
        have hf := hno hq
        clear hyes hno
        have hq2 := Lib.hid hq
        clear hq
        go_wp2
        go_roundg (ls.length - k - 1)
        case measure => have := hk.out; omega
        case rel => exact ⟨k + 1, by omega, by go_num, hf.out, hx.trans hx1⟩
    · have hf := Lib.hid (ixR_none fun j h => hn.out j h (by omega))
      go_wp2
      go_ret
      exact ⟨by rw [show ixI ls r = -1 by unfold ixI; rw [hf.out]]; rfl, hx⟩

theorem p_index8 (nm : ByteArray) (tr : Int) (A : Option Addr) (c : Nat) (ls : List Label) (r : Ref) (w : World) (hA : Labels w A ls) :
    Calls Tryz.prog 48 #[.agg #[.string nm, .int .i64 tr, .slice A ls.length c], .agg #[.int .i64 r.id, .int .i64 r.unit]] w fun e w' => e = .returned (.int .i64 (ixI ls r)) ∧ Ext w w' := by
  have hu2 := Tryz.underlying24
  have hmf := run_func
  have hx := ((Ext.refl w).alloc (.cells #[.string nm, .int .i64 tr, .slice A ls.length c] 24)).alloc (.cells #[.int .i64 r.id, .int .i64 r.unit] 40)
  have hR := Blk.new_at (g := w.heap.size + 1) (w := w.alloc (.cells #[.string nm, .int .i64 tr, .slice A ls.length c] 24)) (by simp) 40 [.int .i64 r.id, .int .i64 r.unit]
  go_enter Tryz.func48, Tryz.ntmps48
  go_wp2_with fail
  refine (p_IxF A c ls r (w.heap.size + 1) _ (hA.ext hx) (hR.cell 0 rfl) (hR.cell 1 rfl)).mono ?_
  rintro e w1 ⟨rfl, hx1⟩
  go_wp2
  go_ret
  exact ⟨rfl, hx.trans hx1⟩

set_option maxHeartbeats 1000000 in
theorem p_Find (nm : ByteArray) (tr : Int) (A : Option Addr) (c : Nat) (ls : List Label) (hse : ∀ l ∈ ls, (l.ext.length : Int) ≤ 1000000) (r : Ref) (w : World) (hA : Labels w A ls) :
    Calls Tryz.prog 18 #[.agg #[.string nm, .int .i64 tr, .slice A ls.length c], .agg #[.int .i64 r.id, .int .i64 r.unit]] w fun e w' =>
      ∃ B cB, e = .returned (.tuple #[.agg #[.int .i64 (findL ls r).id, .int .i64 (findL ls r).unit, .string (findL ls r).name, .string (findL ls r).note, .slice B (findL ls r).ext.length cB], .bool (isF ls r)]) ∧ Runs w' B (findL ls r).ext ∧ Ext w w' := by
  have hu2 := Tryz.underlying24
  have hu3 := Tryz.underlying43
  have hu4 := Tryz.underlying40
  have HI := fun w => p_index8 nm tr A c ls r w
  have hO0 := Blk.new_at (g := w.heap.size + 1 + 1) (w := (w.alloc (.cells #[.string nm, .int .i64 tr, .slice A ls.length c] 24)).alloc (.cells #[.int .i64 r.id, .int .i64 r.unit] 40)) (by simp) 43 [.int .i64 0, .int .i64 0, .string ⟨#[]⟩, .string ⟨#[]⟩, .slice none 0 0]
  have hT0 := ((Blk.new w 24 [.string nm, .int .i64 tr, .slice A ls.length c]).alloc (.cells #[.int .i64 r.id, .int .i64 r.unit] 40)).alloc (.cells #[.int .i64 0, .int .i64 0, .string ⟨#[]⟩, .string ⟨#[]⟩, .slice none 0 0] 43)
  have hx0 := (((Ext.refl w).alloc (.cells #[.string nm, .int .i64 tr, .slice A ls.length c] 24)).alloc (.cells #[.int .i64 r.id, .int .i64 r.unit] 40)).alloc (.cells #[.int .i64 0, .int .i64 0, .string ⟨#[]⟩, .string ⟨#[]⟩, .slice none 0 0] 43)
  cases hi : ixR ls r with
  | none =>
    rw [show ixI ls r = -1 by unfold ixI; rw [hi]] at HI
    have hf := findL_none hi
    have hz : isF ls r = false := by unfold isF; rw [hi]; rfl
    rw [hf, hz]
    clear hf hz hi
    go_enter Tryz.func18, Tryz.ntmps18
    go_wp2_with fail
    refine (HI _ (hA.ext hx0)).mono ?_
    rintro e w1 ⟨rfl, hx1⟩
    have hO := hO0.ext hx1
    have o0 := hO.cell 0 rfl
    have o1 := hO.cell 1 rfl
    have o2 := hO.cell 2 rfl
    have o3 := hO.cell 3 rfl
    have o4 := hO.cell 4 rfl
    have z0 := hO.frozen 0
    have z1 := hO.frozen 1
    have z2 := hO.frozen 2
    have z3 := hO.frozen 3
    have z4 := hO.frozen 4
    have hx := hx0.trans hx1
    go_wp2
    have hF := ((((hO.set 0 (.int .i64 0)).set 1 (.int .i64 0)).set 2 (.string ⟨#[]⟩)).set 3 (.string ⟨#[]⟩)).set 4 (.slice none 0 0)
    have e0 := hF.cell 0 rfl
    have e1 := hF.cell 1 rfl
    have e2 := hF.cell 2 rfl
    have e3 := hF.cell 3 rfl
    have e4 := hF.cell 4 rfl
    exact bodyPost_ret (v := .tuple #[.agg #[.int .i64 0, .int .i64 0, .string ⟨#[]⟩, .string ⟨#[]⟩, .slice none 0 0], .bool false]) (by simp [results, Tryz.results18, go_sem, e0, e1, e2, e3, e4]) rfl ⟨none, 0, rfl, Runs.nil _ _, hx.set5 (by omega) _ _ _ _ _⟩
  | some i =>
    have hil := ixR_lt hi
    rw [show ixI ls r = (i : Int) by unfold ixI; rw [hi]] at HI
    have hf := findL_some hi hil
    have hz : isF ls r = true := by unfold isF; rw [hi]; rfl
    rw [hf, hz]
    clear hf hz hi
    have hlen := hA.len
    have hel := hse _ (List.getElem_mem hil)
    obtain ⟨b, o, B, cB, rfl, a0, a1, a2, a3, a4, hB, _⟩ := hA.at_ hil
    have hi1 : (0 : Int) ≤ (i : Int) := by omega
    have hi2 : (i : Int) < (ls.length : Int) := by omega
    generalize ls[i] = l at *
    go_enter Tryz.func18, Tryz.ntmps18
    go_wp2_with fail
    refine (HI _ (hA.ext hx0)).mono ?_
    rintro e w1 ⟨rfl, hx1⟩
    have hO := hO0.ext hx1
    have hT := hT0.ext hx1
    have t2 := hT.cell 2 rfl
    have hx := hx0.trans hx1
    have h0 := hx.cell a0
    have h1 := hx.cell a1
    have h2 := hx.cell a2
    have h3 := hx.cell a3
    have h4 := hx.cell a4
    have hol := hO.lt
    go_wp2_with fail
    have hx2 := hx.alloc (.cells #[.int .i64 l.id, .int .i64 l.unit, .string l.name, .string l.note, .slice B l.ext.length cB] 43)
    have hO2 := hO.alloc (.cells #[.int .i64 l.id, .int .i64 l.unit, .string l.name, .string l.note, .slice B l.ext.length cB] 43)
    have hL2 := Blk.new w1 43 [.int .i64 l.id, .int .i64 l.unit, .string l.name, .string l.note, .slice B l.ext.length cB]
    refine (p_Clone B l.ext.length cB l.ext rfl hel _ (hB.ext hx2)).mono ?_
    rintro e w3 ⟨D, cD, rfl, hD, hx3⟩
    have hx4 := hx2.trans hx3
    have hO4 := hO2.ext hx3
    have hL4 := hL2.ext hx3
    have l0 := hL4.cell 0 rfl
    have l1 := hL4.cell 1 rfl
    have l2 := hL4.cell 2 rfl
    have l3 := hL4.cell 3 rfl
    have l4 := hL4.cell 4 rfl
    have y4 := hL4.frozen 4
    have o0 := hO4.cell 0 rfl
    have o1 := hO4.cell 1 rfl
    have o2 := hO4.cell 2 rfl
    have o3 := hO4.cell 3 rfl
    have o4 := hO4.cell 4 rfl
    have z0 := hO4.frozen 0
    have z1 := hO4.frozen 1
    have z2 := hO4.frozen 2
    have z3 := hO4.frozen 3
    have z4 := hO4.frozen 4
    go_wp2
    have hO5 := hO4.far (p := ⟨w1.heap.size, 4, none⟩) (by dsimp only; omega) (.slice D l.ext.length cD)
    have hF := ((((hO5.set 0 (.int .i64 l.id)).set 1 (.int .i64 l.unit)).set 2 (.string l.name)).set 3 (.string l.note)).set 4 (.slice D l.ext.length cD)
    have e0 := hF.cell 0 rfl
    have e1 := hF.cell 1 rfl
    have e2 := hF.cell 2 rfl
    have e3 := hF.cell 3 rfl
    have e4 := hF.cell 4 rfl
    have hxF := (hx4.set (p := ⟨w1.heap.size, 4, none⟩) hx.le (.slice D l.ext.length cD)).set5 (g := w.heap.size + 1 + 1) (by omega) (.int .i64 l.id) (.int .i64 l.unit) (.string l.name) (.string l.note) (.slice D l.ext.length cD)
    have hkl : w.heap.size + 1 + 1 < (w1.alloc (.cells #[.int .i64 l.id, .int .i64 l.unit, .string l.name, .string l.note, .slice B l.ext.length cB] 43)).heap.size := by simp; omega
    have hkm : w1.heap.size < (w1.alloc (.cells #[.int .i64 l.id, .int .i64 l.unit, .string l.name, .string l.note, .slice B l.ext.length cB] 43)).heap.size := by simp
    have hDF := (hD.go ((((((KS.refl _ w3).set (p := ⟨w1.heap.size, 4, none⟩) hkm (.slice D l.ext.length cD)).set (p := ⟨w.heap.size + 1 + 1, 0, none⟩) hkl (.int .i64 l.id)).set (p := ⟨w.heap.size + 1 + 1, 1, none⟩) hkl (.int .i64 l.unit)).set (p := ⟨w.heap.size + 1 + 1, 2, none⟩) hkl (.string l.name)).set (p := ⟨w.heap.size + 1 + 1, 3, none⟩) hkl (.string l.note) |>.set (p := ⟨w.heap.size + 1 + 1, 4, none⟩) hkl (.slice D l.ext.length cD))).here
    exact bodyPost_ret (v := .tuple #[.agg #[.int .i64 l.id, .int .i64 l.unit, .string l.name, .string l.note, .slice D l.ext.length cD], .bool true]) (by simp [results, Tryz.results18, go_sem, e0, e1, e2, e3, e4]) rfl ⟨D, cD, rfl, hDF, hxF⟩
end Go.Proofs.YtjdmgpefjehkaaaGreatDoor
