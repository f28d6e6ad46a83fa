/- The reference's references, sorted by insertion; what it finds of a reference. -/
import Derived.Test.YtjdmgpefjehkaaaGreatDoorIns
import Derived.Test.YtjdmgpefjehkaaaGreatDoorApp
import Derived.Test.YtjdmgpefjehkaaaGreatDoorExValid
import Derived.Deep.RegionHeld3
import Derived.BigRegion
import Derived.StillTailTactics
namespace Go.Proofs.YtjdmgpefjehkaaaGreatDoor
open Go.RowKit
attribute [local go_sem] Instr.field asAgg
set_option maxRecDepth 100000

theorem r_less (a b : Ref) (w : World) :
    Calls Tryz.prog 61 #[.agg #[.int .i64 a.id, .int .i64 a.unit], .agg #[.int .i64 b.id, .int .i64 b.unit]] w fun e w' => e = .returned (.bool (ltR a b)) ∧ Ext w w' := by
  have hx := ((Ext.refl w).alloc (.cells #[.int .i64 a.id, .int .i64 a.unit] 40)).alloc (.cells #[.int .i64 b.id, .int .i64 b.unit] 40)
  have hu := Tryz.underlying40
  rw [ltR_iff]
  obtain ⟨i, u⟩ := a
  obtain ⟨j, v⟩ := b
  dsimp only at hx ⊢
  by_cases h1 : i < j
  · rw [show decide (i < j ∨ i = j ∧ u < v) = true by simp; omega]
    go_enter Tryz.func61, Tryz.ntmps61
    go_wp2
    go_ret
    exact ⟨rfl, hx⟩
  · by_cases h2 : i = j
    · subst h2
      by_cases h3 : u < v
      · rw [show decide (i < i ∨ i = i ∧ u < v) = true by simp; omega]
        go_enter Tryz.func61, Tryz.ntmps61
        go_wp2
        go_ret
        exact ⟨rfl, hx⟩
      · rw [show decide (i < i ∨ i = i ∧ u < v) = false by simp; omega]
        go_enter Tryz.func61, Tryz.ntmps61
        go_wp2
        go_ret
        exact ⟨rfl, hx⟩
    · have q : (i == j) = false := by simpa using h2
      rw [show decide (i < j ∨ i = j ∧ u < v) = false by simp; omega]
      have h2 := Lib.hid h2
      go_enter Tryz.func61, Tryz.ntmps61
      go_wp2
      go_ret
      exact ⟨rfl, hx⟩

theorem refs_one (l : List Ref) : ∀ u ∈ l.flatMap refCells, u.oneCell' = true := by
  intro u hu
  obtain ⟨x, _, h⟩ := List.mem_flatMap.1 hu
  simp [refCells] at h
  rcases h with rfl | rfl <;> rfl
theorem refs_len (l : List Ref) : (l.flatMap refCells).length = l.length * 2 := flatMap_len refCells 2 refCells_len l

theorem sl_sub {w : World} {A : Option Addr} {cs cs' : List Value} (h : Sl w A cs) (hs : ∀ (j : Nat) (v : Value), cs'[j]? = some v → cs[j]? = some v) : Sl w A cs' := fun hn => by
  have hne : cs ≠ [] := by
    intro he
    cases cs' with
    | nil => exact hn rfl
    | cons a l => have := hs 0 a rfl; rw [he] at this; cases this
  obtain ⟨b, o, e, hc⟩ := h hne
  exact ⟨b, o, e, fun j v hv => hc j v (hs j v hv)⟩
theorem sl_take {α : Type} {f : α → List Value} {w : World} {A : Option Addr} {l : List α} (h : Sl w A (l.flatMap f)) (j : Nat) : Sl w A ((l.take j).flatMap f) := by
  refine sl_sub h fun i v hv => ?_
  conv => lhs; rw [← List.take_append_drop j l, List.flatMap_append]
  rw [List.getElem?_append_left (List.getElem?_eq_some_iff.1 hv).1]
  exact hv
theorem sl_drop {α : Type} {f : α → List Value} {s : Nat} (hs : ∀ x, (f x).length = s) {w : World} {b o : Nat} {l : List α} (h : Sl w (some ⟨b, o, none⟩) (l.flatMap f)) (j : Nat) (hj : j ≤ l.length) : Sl w (some ⟨b, o + j * s, none⟩) ((l.drop j).flatMap f) := by
  intro hn
  have hne : l.flatMap f ≠ [] := by
    intro he
    rw [← List.take_append_drop j l, List.flatMap_append, List.append_eq_nil_iff] at he
    exact hn he.2
  obtain ⟨b', o', e, hc⟩ := h hne
  cases e
  refine ⟨b, o + j * s, rfl, fun i v hv => ?_⟩
  rw [Nat.add_assoc]
  refine hc _ v ?_
  conv => lhs; rw [← List.take_append_drop j l, List.flatMap_append]
  have hl : ((l.take j).flatMap f).length = j * s := by rw [flatMap_len f s hs, List.length_take, Nat.min_eq_left hj]
  rw [List.getElem?_append_right (by omega), hl, Nat.add_sub_cancel_left]
  exact hv
theorem sl_drop0 {α : Type} {f : α → List Value} {s : Nat} (hs : ∀ x, (f x).length = s) {w : World} {b : Nat} {l : List α} (h : Sl w (some ⟨b, 0, none⟩) (l.flatMap f)) (j : Nat) (hj : j ≤ l.length) : Sl w (some ⟨b, j * s, none⟩) ((l.drop j).flatMap f) := by
  have := sl_drop hs h j hj
  rwa [Nat.zero_add] at this
theorem sl_end {α : Type} {f : α → List Value} {w : World} {l : List α} (A : Option Addr) (j : Nat) (hj : l.length ≤ j) : Sl w A ((l.drop j).flatMap f) := by
  rw [List.drop_of_length_le hj]
  exact Sl.nil _ _
theorem own_at {w : World} {g base : Nat} {e : TypeId} {size : Nat} (h : Blk w g e []) (hb : base ≤ g) : w.ownsRow base e size (.slice (some ⟨g, 0, none⟩) 0 0) 0 [] :=
  ⟨by simp, .inr ⟨g, 0, #[], rfl, hb, h, Nat.le_refl _, by simp [maxLen], by simp, by simp⟩⟩

theorem ins_cells {x : Ref} {out : List Ref} {j : Nat} (hpos : posR x out = j) : (insR x out).flatMap refCells = [] ++ (out.take j).flatMap refCells ++ refCells x ++ (out.drop j).flatMap refCells := by
  unfold insR
  rw [hpos, List.flatMap_append, List.flatMap_append]
  simp
theorem ins_count {w : World} {e : TypeId} {b1 j n : Nat} {x : Ref} {out : List Ref} {v : Value} (hpos : posR x out = j) (h : w.ownsRow b1 e 2 v n ([] ++ (out.take j).flatMap refCells ++ refCells x ++ (out.drop j).flatMap refCells)) : n = (insR x out).length := by
  have h1 := h.1
  rw [← ins_cells hpos, refs_len] at h1
  omega
theorem ins_own {w : World} {e : TypeId} {b0 b1 j n : Nat} {x : Ref} {out : List Ref} {v : Value} (hpos : posR x out = j) (hb : b0 ≤ b1) (h : w.ownsRow b1 e 2 v n ([] ++ (out.take j).flatMap refCells ++ refCells x ++ (out.drop j).flatMap refCells)) :
    w.ownsRow b0 e 2 v (insR x out).length ((insR x out).flatMap refCells) := by
  rw [← ins_count hpos h, ins_cells hpos]
  exact ⟨h.1, h.2.imp id fun ⟨g, cap, cur, h1, h2, h3⟩ => ⟨g, cap, cur, h1, Nat.le_trans hb h2, h3⟩⟩
theorem ins_form {w : World} {e : TypeId} {b1 j n : Nat} {x : Ref} {out : List Ref} {v : Value} (hpos : posR x out = j) (h : w.ownsRow b1 e 2 v n ([] ++ (out.take j).flatMap refCells ++ refCells x ++ (out.drop j).flatMap refCells)) : ∃ g0 cc, v = .slice (some ⟨g0, 0, none⟩) (insR x out).length cc ∧ (insR x out).length ≤ cc := by
  have hn := ins_count hpos h
  have hl := insR_len x out
  rw [← hn] at hl ⊢
  obtain ⟨A, c, rfl, hc⟩ := own_slice h
  obtain ⟨g, cap, he, _⟩ := h.form (by omega)
  cases he
  exact ⟨g, _, rfl, hc⟩
theorem ins_next {ls : List Label} {k : Nat} {hlt : k < ls.length} {x : Ref} {out : List Ref} (hout : Hid (out = insAll (refsOf (ls.take k)))) (hx : Hid (x = refL ls[k])) (hn : Hid (emptyL ls[k] = false → refsOf (ls.take (k + 1)) = refsOf (ls.take k) ++ [refL ls[k]])) (hq : Hid (emptyL ls[k] = false)) :
    Hid (insR x out = insAll (refsOf (ls.take (k + 1)))) := by
  unfold Hid at *
  rw [hn hq, insAll_snoc, ← hout, ← hx]

set_option maxHeartbeats 4000000 in
theorem r_Refs8 (nm : ByteArray) (tr : Int) (A : Option Addr) (c : Nat) (ls : List Label) (hls : (ls.length : Int) ≤ 1000000) (w : World) (hA : Labels w A ls) :
    Calls Tryz.prog 36 #[.agg #[.string nm, .int .i64 tr, .slice A ls.length c]] w fun e w' => ∃ B cb, e = .returned (.slice B (refsS ls).length cb) ∧ Refs w' B (refsS ls) ∧ Ext w w' ∧ (∀ a, B = some a → w.heap.size ≤ a.block) ∧ w'.ownsRow w.heap.size 40 2 (.slice B (refsS ls).length cb) (refsS ls).length ((refsS ls).flatMap refCells) := by
  have hu2 := Tryz.underlying24
  have hu3 := Tryz.underlying43
  have hu4 := Tryz.underlying40
  go_enter Tryz.func36, Tryz.ntmps36
  go_wp2
  go_loopg [3, 4] ls.length (fun g v i wr => ∃ (k : Nat) (out : List Ref), k + g = ls.length ∧ i = .int .i64 k ∧ Hid (out = insAll (refsOf (ls.take k))) ∧ out.length ≤ k ∧ (∃ g0 cc, v = .slice (some ⟨g0, 0, none⟩) out.length cc ∧ out.length ≤ cc) ∧ wr.ownsRow w.heap.size 40 2 v out.length (out.flatMap refCells) ∧ Blk wr w.heap.size 24 [.string nm, .int .i64 tr, .slice A ls.length c] ∧ Ext w wr)
  case atStart => exact ⟨0, [], by omega, rfl, rfl, Nat.le_refl _, ⟨_, _, rfl, Nat.le_refl _⟩, by simpa using own_new (w.alloc _) w.heap.size 40 2 (by simp), (Blk.new w _ [_, _, _]).alloc _, ((Ext.refl w).alloc _).alloc _⟩
  case round =>
    obtain ⟨k, out, hk, rfl, hout, hol, ⟨ob, cc, rfl, hcc⟩, ho, hT, hx⟩ := hrel
    have hk := Lib.hid hk
    have d2 := hT.cell 2 rfl
    rcases Nat.lt_or_ge k ls.length with hlt | hge
    · obtain ⟨b, o, B, cB, rfl, a0, a1, a2, a3, a4, hR, hc⟩ := hA.at_ hlt
      have h0 := hx.cell a0
      have h1 := hx.cell a1
      have h2 := hx.cell a2
      have h3 := hx.cell a3
      have h4 := hx.cell a4
      have hle := hx.le
      have hy := Lib.hid (refsOf_yes ls k hlt)
      have hn := Lib.hid (refsOf_no ls k hlt)
      have HE := fun w => r_empty ls[k] B cB w
      cases hq : emptyL ls[k] with
      | true =>
        rw [hq] at HE
        have hq := Lib.hid hq
        go_wp2_with fail
        refine (HE _ (hR.ext hx)).mono ?_
        rintro e w1 ⟨rfl, eB⟩
        go_wp2
        go_roundg (ls.length - k - 1)
        case measure => have := hk.out; omega
        case rel => exact ⟨k + 1, out, by omega, by go_num, by rw [hy.out hq.out]; exact hout, by omega, ⟨_, _, rfl, hcc⟩, own_ext ho eB, hT.ext eB, hx.trans eB⟩
      | false =>
        rw [hq] at HE
        have hq := Lib.hid hq
        go_wp2_with fail
        refine (HE _ (hR.ext hx)).mono ?_
        rintro e w1 ⟨rfl, eB⟩
        have hx1 := hx.trans eB
        have hT1 := hT.ext eB
        have ho1 := own_ext ho eB
        have g0 := eB.cell h0
        have g1 := eB.cell h1
        have t2 := hT1.cell 2 rfl
        have dl := hT1.lt
        have bl := World.block_lt_of_cell? w1 _ g0
        dsimp only at bl
        clear h0 h1 h2 h3 h4 d2 HE
        go_wp2_with fail
        go_region
        go_wp2
        have hX := (Blk.new w1 40 [.int .i64 ls[k].id, .int .i64 ls[k].unit]).drew
        have hT2 := (hT1.alloc (.cells #[.int .i64 ls[k].id, .int .i64 ls[k].unit] 40)).drew
        have hx2 := (hx1.alloc (.cells #[.int .i64 ls[k].id, .int .i64 ls[k].unit] 40)).drew
        have ho2 : (w1.alloc (.cells #[.int .i64 ls[k].id, .int .i64 ls[k].unit] 40)).drew.ownsRow w.heap.size 40 2 (.slice (some ⟨ob, 0, none⟩) out.length cc) out.length (out.flatMap refCells) := ho1.alloc _
        obtain ⟨x, hxd⟩ : ∃ x : Ref, x = refL ls[k] := ⟨_, rfl⟩
        have hxi : ls[k].id = x.id := by rw [hxd]; rfl
        have hxu : ls[k].unit = x.unit := by rw [hxd]; rfl
        rw [hxi, hxu] at hX hT2 hx2 ho2 ⊢
        have hxh := Lib.hid hxd
        clear hxd hxi hxu t2 g0 g1 dl bl hT1 hx1 ho1
        generalize (w1.alloc (.cells #[.int .i64 x.id, .int .i64 x.unit] 40)).drew = wx at *
        generalize w1.heap.size = xb at *
        go_loopg [6] out.length (fun g i wr => ∃ j : Nat, j + g = out.length ∧ i = .int .i64 j ∧ Hid (∀ q (h : q < out.length), q < j → ltR x out[q] = false) ∧ wr.ownsRow w.heap.size 40 2 (.slice (some ⟨ob, 0, none⟩) out.length cc) out.length (out.flatMap refCells) ∧ Blk wr xb 40 [.int .i64 x.id, .int .i64 x.unit] ∧ Blk wr w.heap.size 24 [.string nm, .int .i64 tr, .slice (some ⟨b, o, none⟩) ls.length c] ∧ Ext w wr)
        case atStart => exact ⟨0, by omega, rfl, fun q _ h => by omega, ho2, hX, hT2, hx2⟩
        case round =>
          obtain ⟨j, hj, rfl, hlt2, ho3, hX3, hT3, hx3⟩ := hrel
          have hj := Lib.hid hj
          have x0 := hX3.cell 0 rfl
          have x1 := hX3.cell 1 rfl
          have xl := hX3.lt
          rcases Nat.lt_or_ge j out.length with hjl | hjg
          · obtain ⟨ob', oo, he, hcc2⟩ := (Sl.own ho3).at_ (s := 2) (fun _ => rfl) (by omega) hjl
            cases he
            have c0 : wr.cell? ⟨ob, j * 2, none⟩ = some (.int .i64 out[j].id) := by simpa using hcc2 0 _ rfl
            have c1 : wr.cell? ⟨ob, j * 2 + 1, none⟩ = some (.int .i64 out[j].unit) := by simpa [← Nat.add_assoc] using hcc2 1 _ rfl
            clear hcc2
            have HL := fun w => r_less x out[j] w
            have hd : decide ((j : Int) < (out.length : Int)) = true := decide_eq_true (by omega)
            have hx := hx3.drew
            go_wp2_with fail
            refine wp_region_still_tail 10 (by kernel_rfl) (by kernel_rfl) ?_
            simp only [List.take_succ_cons, List.take_zero, List.drop_succ_cons, List.drop_zero]
            change wpStill _ _ (World.drew _) _ _ _
            repeat still_step
            refine wpStill_nil ?_
            change wpList _ _ _ _ _ (World.drew _)
            go_wp2_with fail
            refine (HL _).mono ?_
            rintro e w5 ⟨rfl, hy⟩
            have hx5 := hx.trans hy
            cases hlr : ltR x out[j] with
            | true =>
              have hpos := posR_ahead x out j (by omega) hlt2.out (fun _ => hlr)
              have hpos := Lib.hid hpos
              have hlr2 := Lib.hid hlr
              clear hlr
              have ho5 := own_ext ho3.drew hy
              have hX5 := hX3.drew.ext hy
              have hT5 := hT3.drew.ext hy
              clear hx3 hX3 hT3 ho3 x0 x1 xl c0 c1 hx hy HL ho2 hX hT2 hx2 hd
              have x0 := hX5.cell 0 rfl
              have x1 := hX5.cell 1 rfl
              have xl := hX5.lt
              have hcj : ¬ cc = j := by omega
              have hj1 : (0 : Int) ≤ (j : Int) := by omega
              have hj2 : (j : Int) ≤ (cc : Int) := by omega
              have hj3 : (j : Int) ≤ (out.length : Int) := by omega
              have hS5 := Sl.own ho5
              go_wp2
              go_region_held3 (fun w' => w'.cell? ⟨xb, 0, none⟩ = some (.int .i64 x.id) ∧ w'.cell? ⟨xb, 1, none⟩ = some (.int .i64 x.unit)) (first | go_keep | (go_split_ands; first | exact ⟨hE8.cell (by assumption), hE8.cell (by assumption)⟩ | exact ⟨hE7.cell (by assumption), hE7.cell (by assumption)⟩ | exact ⟨hE6.cell (by assumption), hE6.cell (by assumption)⟩)) (first | (refine step_src2 w5 rfl (.tmp 49) (.tmp 52) _ 40 (.agg #[.int .i64 0, .int .i64 0]) 2 16 rfl Tryz.underlying25 ref_info rfl (by omega) (by omega) (.slice (some ⟨_, 0, none⟩) 0 0) 0 [] (some ⟨ob, 0, none⟩) j _ ((out.take j).flatMap refCells) rfl rfl (by rw [refs_len]; simp; omega) (refs_one _) (sl_take (hS5.ext (by repeat (first | with_reducible exact Ext.refl _ | assumption | refine Ext.drew ?_ | refine Ext.alloc ?_ _))) j) (own_at (by first | exact (Blk.new_at (by simp) _ []).drew | exact ((Blk.new_at (by simp) _ []).alloc _).drew) (by simp)) (by repeat (first | with_reducible exact Ext.refl _ | assumption | refine Ext.drew ?_ | refine Ext.alloc ?_ _)) (by omega) ?_; intro v1 w6 oB1 hE6 hG6 at1) | (refine step_src2 w5 rfl (.tmp 53) (.tmp 55) _ 40 (.agg #[.int .i64 0, .int .i64 0]) 2 16 rfl Tryz.underlying25 ref_info rfl (by omega) (by omega) _ _ _ _ 1 _ (refCells x) rfl rfl rfl (by simp [Value.oneCell', refCells]) (by first | exact Sl.blk (Blk.new _ _ [_, _]) | exact Sl.blk (hG6 _ _ _ (by first | exact (Blk.new_at (by simp) _ [_, _]).drew | exact ((Blk.new_at (by simp) _ [_, _]).alloc _).drew) (by simp [Value.ownBlock]))) (by first | exact oB1 | exact oB1.alloc _) (by repeat (first | with_reducible exact Ext.refl _ | assumption | refine Ext.drew ?_ | refine Ext.alloc ?_ _)) (by omega) ?_; intro v2 w7 oB2 hE7 hG7 at2) | (refine step_src2 w5 rfl (.tmp 56) (.tmp 59) _ 40 (.agg #[.int .i64 0, .int .i64 0]) 2 16 rfl Tryz.underlying25 ref_info rfl (by omega) (by omega) _ _ _ _ _ _ ((out.drop j).flatMap refCells) rfl rfl (by rw [refs_len]; simp <;> omega) (refs_one _) (sl_drop0 refCells_len (hS5.ext (by repeat (first | with_reducible exact Ext.refl _ | assumption | refine Ext.drew ?_ | refine Ext.alloc ?_ _))) j (by omega)) oB2 (by repeat (first | with_reducible exact Ext.refl _ | assumption | refine Ext.drew ?_ | refine Ext.alloc ?_ _)) (by omega) ?_; intro v3 w8 oB3 hE8 hG8 at3))
              all_goals
                go_wp2
                go_roundg (ls.length - k - 1)
                case measure => have := hk.out; omega
                case rel => exact ⟨k + 1, insR x out, by omega, by go_num, ins_next hout hxh hn hq, by rw [insR_len]; omega, ins_form hpos.out oB3, ins_own hpos.out hx5.le oB3, hT5.ext hE8, hx5.trans hE8⟩
            | false =>
              have hlr := Lib.hid hlr
              go_wp2
              go_roundg (out.length - j - 1)
              case measure => have := hj.out; omega
              case rel => exact ⟨j + 1, by omega, by go_num, all_snoc (P := fun r : Ref => ltR x r = false) hlt2.out hjl hlr.out, own_ext ho3.drew hy, hX3.drew.ext hy, hT3.drew.ext hy, hx5⟩
          · have hje : j = out.length := by omega
            have hpos := posR_ahead x out j (by omega) hlt2.out (fun h => absurd h (by omega))
            have hpos := Lib.hid hpos
            have hd : decide ((j : Int) < (out.length : Int)) = false := decide_eq_false (by omega)
            have hdn : decide (j < out.length) = false := decide_eq_false (by omega)
            have hje2 := Lib.hid hje
            clear hje
            go_wp2_with fail
            go_quiet (fail)
            have ho5 := own_ext ho3 ((Ext.refl _).drewN nq)
            have hX5 := hX3.drewN nq
            have hT5 := hT3.drewN nq
            have hx5 := hx3.drewN nq
            generalize wr.drewN nq = w5 at *
            clear hx3 hX3 hT3 ho3 x0 x1 xl ho2 hX hT2 hx2 hd hdn
            have x0 := hX5.cell 0 rfl
            have x1 := hX5.cell 1 rfl
            have xl := hX5.lt
            have hj1 : (0 : Int) ≤ (j : Int) := by omega
            have hj2 : (j : Int) ≤ (cc : Int) := by omega
            have hj3 : (j : Int) ≤ (out.length : Int) := by omega
            have hS5 := Sl.own ho5
            go_wp2_with fail
            by_cases hcj : cc = j
            · have hcj2 := hcj.symm
              subst hcj2
              clear hcj
              go_region_held3 (fun w' => w'.cell? ⟨xb, 0, none⟩ = some (.int .i64 x.id) ∧ w'.cell? ⟨xb, 1, none⟩ = some (.int .i64 x.unit)) (first | go_keep | (go_split_ands; first | exact ⟨hE8.cell (by assumption), hE8.cell (by assumption)⟩ | exact ⟨hE7.cell (by assumption), hE7.cell (by assumption)⟩ | exact ⟨hE6.cell (by assumption), hE6.cell (by assumption)⟩)) (first | (refine step_src2 w5 rfl (.tmp 49) (.tmp 52) _ 40 (.agg #[.int .i64 0, .int .i64 0]) 2 16 rfl Tryz.underlying25 ref_info rfl (by omega) (by omega) (.slice (some ⟨_, 0, none⟩) 0 0) 0 [] (some ⟨ob, 0, none⟩) j _ ((out.take j).flatMap refCells) rfl rfl (by rw [refs_len]; simp; omega) (refs_one _) (sl_take (hS5.ext (by repeat (first | with_reducible exact Ext.refl _ | assumption | refine Ext.drew ?_ | refine Ext.alloc ?_ _))) j) (own_at (by first | exact (Blk.new_at (by simp) _ []).drew | exact ((Blk.new_at (by simp) _ []).alloc _).drew) (by simp)) (by repeat (first | with_reducible exact Ext.refl _ | assumption | refine Ext.drew ?_ | refine Ext.alloc ?_ _)) (by omega) ?_; intro v1 w6 oB1 hE6 hG6 at1) | (refine step_src2 w5 rfl (.tmp 53) (.tmp 55) _ 40 (.agg #[.int .i64 0, .int .i64 0]) 2 16 rfl Tryz.underlying25 ref_info rfl (by omega) (by omega) _ _ _ _ 1 _ (refCells x) rfl rfl rfl (by simp [Value.oneCell', refCells]) (by first | exact Sl.blk (Blk.new _ _ [_, _]) | exact Sl.blk (hG6 _ _ _ (by first | exact (Blk.new_at (by simp) _ [_, _]).drew | exact ((Blk.new_at (by simp) _ [_, _]).alloc _).drew) (by simp [Value.ownBlock]))) (by first | exact oB1 | exact oB1.alloc _) (by repeat (first | with_reducible exact Ext.refl _ | assumption | refine Ext.drew ?_ | refine Ext.alloc ?_ _)) (by omega) ?_; intro v2 w7 oB2 hE7 hG7 at2) | (refine step_src2 w5 rfl (.tmp 56) (.tmp 59) _ 40 (.agg #[.int .i64 0, .int .i64 0]) 2 16 rfl Tryz.underlying25 ref_info rfl (by omega) (by omega) _ _ _ _ _ _ ((out.drop j).flatMap refCells) rfl rfl (by rw [refs_len]; simp <;> omega) (refs_one _) (sl_end _ _ (by omega)) oB2 (by repeat (first | with_reducible exact Ext.refl _ | assumption | refine Ext.drew ?_ | refine Ext.alloc ?_ _)) (by omega) ?_; intro v3 w8 oB3 hE8 hG8 at3))
              all_goals
                go_wp2
                go_roundg (ls.length - k - 1)
                case measure => have := hk.out; omega
                case rel => exact ⟨k + 1, insR x out, by omega, by go_num, ins_next hout hxh hn hq, by rw [insR_len]; omega, ins_form hpos.out oB3, ins_own hpos.out hx5.le oB3, hT5.ext hE8, hx5.trans hE8⟩
            · go_region_held3 (fun w' => w'.cell? ⟨xb, 0, none⟩ = some (.int .i64 x.id) ∧ w'.cell? ⟨xb, 1, none⟩ = some (.int .i64 x.unit)) (first | go_keep | (go_split_ands; first | exact ⟨hE8.cell (by assumption), hE8.cell (by assumption)⟩ | exact ⟨hE7.cell (by assumption), hE7.cell (by assumption)⟩ | exact ⟨hE6.cell (by assumption), hE6.cell (by assumption)⟩)) (first | (refine step_src2 w5 rfl (.tmp 49) (.tmp 52) _ 40 (.agg #[.int .i64 0, .int .i64 0]) 2 16 rfl Tryz.underlying25 ref_info rfl (by omega) (by omega) (.slice (some ⟨_, 0, none⟩) 0 0) 0 [] (some ⟨ob, 0, none⟩) j _ ((out.take j).flatMap refCells) rfl rfl (by rw [refs_len]; simp; omega) (refs_one _) (sl_take (hS5.ext (by repeat (first | with_reducible exact Ext.refl _ | assumption | refine Ext.drew ?_ | refine Ext.alloc ?_ _))) j) (own_at (by first | exact (Blk.new_at (by simp) _ []).drew | exact ((Blk.new_at (by simp) _ []).alloc _).drew) (by simp)) (by repeat (first | with_reducible exact Ext.refl _ | assumption | refine Ext.drew ?_ | refine Ext.alloc ?_ _)) (by omega) ?_; intro v1 w6 oB1 hE6 hG6 at1) | (refine step_src2 w5 rfl (.tmp 53) (.tmp 55) _ 40 (.agg #[.int .i64 0, .int .i64 0]) 2 16 rfl Tryz.underlying25 ref_info rfl (by omega) (by omega) _ _ _ _ 1 _ (refCells x) rfl rfl rfl (by simp [Value.oneCell', refCells]) (by first | exact Sl.blk (Blk.new _ _ [_, _]) | exact Sl.blk (hG6 _ _ _ (by first | exact (Blk.new_at (by simp) _ [_, _]).drew | exact ((Blk.new_at (by simp) _ [_, _]).alloc _).drew) (by simp [Value.ownBlock]))) (by first | exact oB1 | exact oB1.alloc _) (by repeat (first | with_reducible exact Ext.refl _ | assumption | refine Ext.drew ?_ | refine Ext.alloc ?_ _)) (by omega) ?_; intro v2 w7 oB2 hE7 hG7 at2) | (refine step_src2 w5 rfl (.tmp 56) (.tmp 59) _ 40 (.agg #[.int .i64 0, .int .i64 0]) 2 16 rfl Tryz.underlying25 ref_info rfl (by omega) (by omega) _ _ _ _ _ _ ((out.drop j).flatMap refCells) rfl rfl (by rw [refs_len]; simp <;> omega) (refs_one _) (sl_end _ _ (by omega)) oB2 (by repeat (first | with_reducible exact Ext.refl _ | assumption | refine Ext.drew ?_ | refine Ext.alloc ?_ _)) (by omega) ?_; intro v3 w8 oB3 hE8 hG8 at3))
              all_goals
                go_wp2
                go_roundg (ls.length - k - 1)
                case measure => have := hk.out; omega
                case rel => exact ⟨k + 1, insR x out, by omega, by go_num, ins_next hout hxh hn hq, by rw [insR_len]; omega, ins_form hpos.out oB3, ins_own hpos.out hx5.le oB3, hT5.ext hE8, hx5.trans hE8⟩
    · have hkk : k = ls.length := by have := hk.out; omega
      have h2 := hout.out
      rw [List.take_of_length_le hge, insAll_eq] at h2
      have h2 : out = refsS ls := h2
      subst h2
      go_wp2
      go_ret
      exact ⟨_, _, rfl, ⟨Sl.own ho, fun r hr => by
        obtain ⟨l, hl, rfl⟩ := List.mem_map.1 (sortR_mem.1 hr)
        have := hA.ok l (List.mem_filter.1 hl).1
        exact ⟨this.1, this.2.1⟩, by omega⟩, hx, fun a ha => by cases ha; exact (ho.lt ob (by simp [Value.ownBlock])).1, ho⟩
end Go.Proofs.YtjdmgpefjehkaaaGreatDoor
