/- The reference's Table tells what scrub.Table tells. -/
import Derived.Test.YtjdmgpefjehkaaaGreatDoorRefs8
import Derived.Test.YtjdmgpefjehkaaaGreatDoorTimes
import Derived.Test.YtjdmgpefjehkaaaGreatDoorMap
import Derived.Test.YtjdmgpefjehkaaaGreatDoorPLines
import Derived.Deep.RegionHeld3
import Derived.Deep.RegionLaw
namespace Go.Proofs.YtjdmgpefjehkaaaGreatDoor
open Go.RowKit
attribute [local go_sem] Instr.field asAgg
set_option maxRecDepth 100000

theorem owner_yes {ls : List Label} {t : Int} (h : (ownerT ls t).isSome = true) : 0 < (allT ls).count t := by
  rw [ownerT_isSome] at h
  exact of_decide_eq_true h
theorem owner_no {ls : List Label} {t : Int} (h : (ownerT ls t).isSome = false) : (allT ls).count t = 0 := by
  rw [ownerT_isSome] at h
  have := of_decide_eq_false h
  omega
set_option maxHeartbeats 4000000 in
theorem r_Table15 (nm : ByteArray) (tr : Int) (A : Option Addr) (c : Nat) (ls : List Label) (hsm : (ls.length : Int) ≤ 1000000) (hse : ∀ l ∈ ls, (l.ext.length : Int) ≤ 1000000) (w : World) (hA : Labels w A ls) :
    Calls Tryz.prog 11 #[.agg #[.string nm, .int .i64 tr, .slice A ls.length c]] w fun e w' => ∃ A2 c2 A3 c3, e = .returned (.agg #[.int .i64 (scrubS tr ls).free, .int .i64 (scrubS tr ls).used, .slice A2 (tentS ls).length c2, .slice A3 (sharedS ls).length c3, .slice none 0 0]) ∧ ScrubOk w' (scrubS tr ls) A2 A3 none ∧ Ext w w' := by
  have hu1 := Tryz.underlying29
  have hu2 := Tryz.underlying24
  have hu4 := Tryz.underlying40
  have hb := trk_bd tr
  have htt : 0 ≤ tt tr ∧ tt tr ≤ 128 := by have := tt_bd tr; omega
  have hal := allT_len ls hse
  have HT := fun t w => r_times nm tr A c ls hse hsm t w
  go_enter Tryz.func11, Tryz.ntmps11
  go_wp2_with fail
  refine (r_tt tr _).mono ?_
  rintro e w1 ⟨rfl, rfl⟩
  have hsp : (tt tr : Int) + spanN tr = trk tr ∨ (trk tr < tt tr ∧ spanN tr = 0) := by unfold spanN; omega
  go_wp2_with fail
  go_loopg [4] (spanN tr) (fun g i wr => ∃ k : Nat, k + g = spanN tr ∧ i = .int .i64 (tt tr + k) ∧ Blk wr w.heap.size 24 [.string nm, .int .i64 tr, .slice A ls.length c] ∧ Blk wr (w.heap.size + 1) 29 [.int .i64 0, .int .i64 0, .slice none 0 0, .slice none 0 0, .slice none 0 0] ∧ Blk wr (w.heap.size + 1 + 1) 29 [.int .i64 (k - cntU ls (tt tr) k), .int .i64 (cntU ls (tt tr) k), .slice none 0 0, .slice none 0 0, .slice none 0 0] ∧ Ext w wr)
  case atStart => exact ⟨0, by omega, by simp, ((Blk.new w _ [_, _, _]).alloc _).alloc _, (Blk.new_at (by simp) _ [_, _, _, _, _]).alloc _, Blk.new_at (by simp) _ [_, _, _, _, _], (((Ext.refl w).alloc _).alloc _).alloc _⟩
  case round =>
    obtain ⟨k, hk, rfl, hT, hR, hS, hx⟩ := hrel
    have hk2 := Lib.hid hk
    have hkg : k ≤ spanN tr := by omega
    clear hk
    have d0 := hT.cell 0 rfl
    have d1 := hT.cell 1 rfl
    have d2 := hT.cell 2 rfl
    go_wp2_with fail
    refine (r_tracks nm tr A _ c _).mono ?_
    rintro e w1 ⟨rfl, hx1⟩
    clear d0 d1 d2
    have hT1 := hT.ext hx1
    have hR1 := hR.ext hx1
    have hS1 := hS.ext hx1
    have hy1 := hx.trans hx1
    have d0 := hT1.cell 0 rfl
    have d1 := hT1.cell 1 rfl
    have d2 := hT1.cell 2 rfl
    rcases Nat.lt_or_ge k (spanN tr) with hlt | hge
    · have hq : (tt tr : Int) + k < trk tr := by omega
      have hcl := List.count_le_length (a := tt tr + (k : Int)) (l := allT ls)
      have HTk := HT (tt tr + k)
      have hu := Lib.hid (cntU_succ ls (tt tr) k)
      have hbd := cntU_le ls (tt tr) k
      cases hi : (ownerT ls (tt tr + k)).isSome with
      | true =>
        have hpos := owner_yes hi
        have hi2 := Lib.hid hi
        clear hi
        generalize (allT ls).count (tt tr + (k : Int)) = cn at *
        go_wp2_with fail
        refine (HTk _ (hA.ext hy1)).mono ?_
        clear HTk HT
        rintro e w2 ⟨rfl, hx2⟩
        clear d0 d1 d2
        have hT2 := hT1.ext hx2
        have hR2 := hR1.ext hx2
        have hS2 := hS1.ext hx2
        have hy2 := hy1.trans hx2
        have e0 := hS2.cell 0 rfl
        have e1 := hS2.cell 1 rfl
        have z0 := hS2.frozen 0
        have z1 := hS2.frozen 1
        have hle := hy2.le
        go_wp2
        go_roundg (spanN tr - k - 1)
        case measure => have := hk2.out; omega
        case rel => exact ⟨k + 1, by omega, by go_num, hT2.far (by dsimp only; omega) _, hR2.far (by dsimp only; omega) _, by rw [hu.out, hi2.out]; simpa [Int.add_sub_add_right] using hS2.set 1 (.int .i64 (cntU ls (tt tr) k + 1)), hy2.set (by simp; omega) _⟩
      | false =>
        have hzero := owner_no hi
        have hi2 := Lib.hid hi
        clear hi
        rw [hzero] at HTk
        clear hzero
        go_wp2_with fail
        refine (HTk _ (hA.ext hy1)).mono ?_
        clear HTk HT
        rintro e w2 ⟨rfl, hx2⟩
        clear d0 d1 d2
        have hT2 := hT1.ext hx2
        have hR2 := hR1.ext hx2
        have hS2 := hS1.ext hx2
        have hy2 := hy1.trans hx2
        have e0 := hS2.cell 0 rfl
        have e1 := hS2.cell 1 rfl
        have z0 := hS2.frozen 0
        have z1 := hS2.frozen 1
        have hle := hy2.le
        go_wp2
        go_roundg (spanN tr - k - 1)
        case measure => have := hk2.out; omega
        case rel => exact ⟨k + 1, by omega, by go_num, hT2.far (by dsimp only; omega) _, hR2.far (by dsimp only; omega) _, by rw [hu.out, hi2.out]; have := hS2.set 0 (.int .i64 (k - cntU ls (tt tr) k + 1)); rw [show (((k + 1 : Nat) : Int) - (cntU ls (tt tr) k + if (false = true) then 1 else 0)) = k - cntU ls (tt tr) k + 1 by simp; omega]; simpa using this, hy2.set (by simp; omega) _⟩
    · have hq : trk tr ≤ (tt tr : Int) + k := by omega
      have hkk : k = spanN tr := by omega
      have hle := hy1.le
      have hbd := cntU_le ls (tt tr) k
      have hSd := hS1
      rw [hkk] at hS1
      generalize hF : (spanN tr : Int) - cntU ls (tt tr) (spanN tr) = F at hS1
      generalize hU : cntU ls (tt tr) (spanN tr) = U at hS1
      have hF2 := Lib.hid hF
      have hU2 := Lib.hid hU
      clear hF hU
      have hltR := hR1.lt
      have hltS := hS1.lt
      clear hSd hS hT hR hx hk2 hkk hkg hge
      go_wp2_with fail
      refine (r_Refs8 nm tr A c ls hsm _ (hA.ext hy1)).mono ?_
      rintro e w2 ⟨B, cb, rfl, hRf, hx2, hBf, _⟩
      have hT2 := hT1.ext hx2
      have hR2 := hR1.ext hx2
      have hS2 := hS1.ext hx2
      have hy2 := hy1.trans hx2
      have hle2 := hx2.le
      have hle2' := Nat.le_trans hle hx2.size
      clear hT1 hR1 hS1 hx1 d0 d1 d2 hq
      go_wp2
      go_loopg [6] (refsS ls).length (fun g i wr => ∃ k : Nat, k + g = (refsS ls).length ∧ i = .int .i64 k ∧ Kp (w.heap.size + 1 + 1) w2 wr ∧ Ext w wr ∧ ∃ v, Blk wr (w.heap.size + 1 + 1) 29 [.int .i64 F, .int .i64 U, v, .slice none 0 0, .slice none 0 0] ∧ wr.ownsRow w2.heap.size 40 2 v (((refsS ls).take k).filter fun r => r.unit != 0).length ((((refsS ls).take k).filter fun r => r.unit != 0).flatMap refCells))
      case atStart => exact ⟨0, by omega, rfl, Kp.refl _ _, hy2, _, hS2, World.ownsRow_nil _ _ _ _⟩
      case round =>
        obtain ⟨k, hk, rfl, hK, hx, v, hS, ho⟩ := hrel
        have hk2 := Lib.hid hk
        have hkR : k ≤ (refsS ls).length := by omega
        clear hk
        have d2 := hS.cell 2 rfl
        have z2 := hS.frozen 2
        have dl := hS.lt
        have hKs := hK.size
        have hRl := hRf.len
        rcases Nat.lt_or_ge k (refsS ls).length with hlt | hge
        · have hRk := hK.refs hRf (fun a ha => by have := hBf a ha; omega)
          obtain ⟨b, o, rfl, a0, a1⟩ := hRk.at_ hlt
          have hkl : (k : Int) < ((refsS ls).length : Int) := by omega
          have hk0 : (0 : Int) ≤ (k : Int) := by omega
          have hm : (((refsS ls).take k).filter fun r => r.unit != 0).length ≤ k := Nat.le_trans (List.length_filter_le _ _) (by simp; omega)
          have hft : ((refsS ls).take (k + 1)).filter (fun r => r.unit != 0) = ((refsS ls).take k).filter (fun r => r.unit != 0) ++ ([(refsS ls)[k]].filter fun r => r.unit != 0) := by rw [List.take_succ_eq_append_getElem hlt, List.filter_append]
          have hok := hRf.ok _ (List.getElem_mem hlt)
          generalize (refsS ls)[k] = r at *
          cases hu : (r.unit == 0) with
          | true =>
            have hun : (r.unit != 0) = false := by simp [bne, hu]
            have hft2 : Hid (((refsS ls).take (k + 1)).filter (fun r => r.unit != 0) = ((refsS ls).take k).filter (fun r => r.unit != 0)) := by unfold Hid; rw [hft]; simp [hun]
            clear hft
            go_wp2
            go_roundg ((refsS ls).length - k - 1)
            case measure => have := hk2.out; omega
            case rel => exact ⟨k + 1, by omega, by go_num, hK, hx, v, hS, by rw [hft2.out]; exact ho⟩
          | false =>
            have hun : (r.unit != 0) = true := by simp [bne, hu]
            have hft2 : Hid (((refsS ls).take (k + 1)).filter (fun r => r.unit != 0) = ((refsS ls).take k).filter (fun r => r.unit != 0) ++ [r]) := by unfold Hid; rw [hft]; simp [hun]
            clear hft
            have hfar := own_far ho hS (by decide)
            have hlow := fun q hq => (ho.lt q hq).1
            go_wp2_with fail
            have hbl : b < w2.heap.size := by
              obtain ⟨b', o', he, c0, _⟩ := hRf.at_ hlt
              cases he
              exact World.block_lt_of_cell? w2 _ c0
            have hnb : some b ≠ v.ownBlock := fun he => by have := hlow _ he.symm; omega
            have hoD : ((wr.alloc (.cells #[.int .i64 r.id, .int .i64 r.unit] 40)).drew).ownsRow w2.heap.size 40 2 v _ _ := own_ext ho ((Ext.refl wr).alloc (.cells #[.int .i64 r.id, .int .i64 r.unit] 40)).drew
            have hED := ((Ext.refl wr).alloc (.cells #[.int .i64 r.id, .int .i64 r.unit] 40)).drew
            have hSD := hS.ext hED
            have hKD := hK.ext hED
            have hxD := hx.trans hED
            go_region_law ((refine step_app w2.heap.size rfl (.tmp 45) (.tmp 50) _ 40 (.agg #[.int .i64 0, .int .i64 0]) 2 16 rfl Tryz.underlying25 ref_info rfl (by omega) (by omega) v _ _ (refCells r) rfl (by simp [Value.oneCell', refCells]) rfl _ rfl (Blk.new_at (by simp) _ [_, _]).drew hoD (by simp; omega) (by omega) ?_; intro v1 w3 oB gA; have hS3 := hSD.grown gA hfar; have z3 := hS3.frozen 2; have e2 := hS3.cell 2 rfl; obtain ⟨A1, k1, rfl, _⟩ := own_slice oB))
            all_goals
              go_wp2
              go_roundg ((refsS ls).length - k - 1)
              case measure => have := hk2.out; omega
              case rel => exact ⟨k + 1, by omega, by go_num, (hKD.grown gA hlow).set 2 _, (hxD.grown gA fun q hq => Nat.le_trans hle2' (hlow q hq)).set (by dsimp only; omega) _, _, hS3.set 2 _, by
                rw [hft2.out, List.length_append, List.flatMap_append]
                exact own_set (by simpa using oB) (own_far oB hS3 (by decide)) _⟩
        · have hkk : k = (refsS ls).length := by omega
          clear hkR
          rw [List.take_of_length_le hge] at ho
          subst hkk
          change wr.ownsRow w2.heap.size _ 2 v (tentS ls).length ((tentS ls).flatMap refCells) at ho
          have hTk := hK.blk hT2 (by omega)
          have hRk := hK.blk hR2 (by omega)
          have htok : ∀ r ∈ tentS ls, I64 r.id ∧ I64 r.unit := fun r hr => hRf.ok r (List.mem_filter.1 hr).1
          have htlen : ((tentS ls).length : Int) ≤ 8796093022208 := by
            have : (tentS ls).length ≤ (refsS ls).length := List.length_filter_le _ _
            omega
          have hxle := hx.le
          have hlt1 := hRk.lt
          have hlt2 := hS.lt
          have hge2 : ((refsS ls).length : Int) ≤ (refsS ls).length := Int.le_refl _
          obtain ⟨A2, c2, rfl, _⟩ := own_slice ho
          clear hK hRf hBf hKs hRl hT2 hR2 hS2 hk2 z2 d2 dl
          go_wp2
          obtain ⟨wf, hwf⟩ : ∃ x, x = wr := ⟨_, rfl⟩
          subst hwf
          go_loopg [7] 128 (fun g i wr => ∃ k : Nat, k + g = 128 ∧ i = .int .i64 k ∧ Kp (w.heap.size + 1 + 1) wf wr ∧ Ext w wr ∧ ∃ v2, Blk wr (w.heap.size + 1 + 1) 29 [.int .i64 F, .int .i64 U, .slice A2 (tentS ls).length c2, v2, .slice none 0 0] ∧ wr.ownsRow wf.heap.size 3 1 v2 (shK (allT ls) k).length (intCells (shK (allT ls) k)))
          case atStart => exact ⟨0, by omega, rfl, Kp.refl _ _, hx, _, hS, World.ownsRow_nil _ _ _ _⟩
          case round =>
            obtain ⟨k, hk, rfl, hK2, hx2, v2, hS2, ho2⟩ := hrel
            have hk3 := Lib.hid hk
            have hk128 : k ≤ 128 := by omega
            clear hk
            have hT2 := hK2.blk hTk (by omega)
            have hlk := shK_len (allT ls) k
            rcases Nat.lt_or_ge k 128 with hlt | hge
            · have d0 := hT2.cell 0 rfl
              have d1 := hT2.cell 1 rfl
              have d2 := hT2.cell 2 rfl
              have hcl := List.count_le_length (a := (k : Int)) (l := allT ls)
              have HTk := HT k
              have hsy := fun h => Lib.hid (shK_yes (allT ls) k h)
              have hsn := fun h => Lib.hid (shK_no (allT ls) k h)
              generalize (allT ls).count (k : Int) = cn at *
              go_wp2_with fail
              refine (HTk _ (hA.ext hx2)).mono ?_
              clear HTk HT
              rintro e w3 ⟨rfl, hx3⟩
              clear d0 d1 d2
              have hS3 := hS2.ext hx3
              have hK3 := hK2.ext hx3
              have hx4 := hx2.trans hx3
              have ho3 := own_ext ho2 hx3
              have d3 := hS3.cell 3 rfl
              have z3 := hS3.frozen 3
              have dl := hS3.lt
              have hK3s := hK3.size
              by_cases hc : 1 < cn
              · have hsy2 := hsy hc
                clear hsy hsn
                have hcI : (1 : Int) < cn := by omega
                have hfar := own_far ho3 hS3 (by decide)
                have hlow := fun q hq => (ho3.lt q hq).1
                go_wp2_with (at_builtin; refine app2 wf.heap.size rfl _ _ _ 3 (.int .i64 0) 1 8 rfl Tryz.underlying26 int_info rfl (by omega) (by omega) v2 _ _ [.int .i64 k] rfl (by simp [Value.oneCell']) rfl _ rfl (by simp) ho3 hK3s (by omega) ?_; intro v1 w5 oB gA; have hS5 := hS3.grown gA hfar; have z5 := hS5.frozen 3; have y3 := hS5.cell 3 rfl; obtain ⟨A1, k1, rfl, _⟩ := own_slice oB)
                go_roundg (128 - k - 1)
                case measure => have := hk3.out; omega
                case rel => exact ⟨k + 1, by omega, by go_num, (hK3.grown gA hlow).set 3 _, (hx4.grown gA fun q hq => Nat.le_trans hxle (hlow q hq)).set (by dsimp only; omega) _, _, hS5.set 3 _, by
                  rw [hsy2.out, List.length_append, ← intCells_snoc]
                  exact own_set oB (own_far oB hS5 (by decide)) _⟩
              · have hsn2 := hsn hc
                clear hsy hsn
                have hcI : (cn : Int) ≤ 1 := by omega
                clear hc
                go_wp2
                go_roundg (128 - k - 1)
                case measure => have := hk3.out; omega
                case rel => exact ⟨k + 1, by omega, by go_num, hK3, hx4, _, hS3, by rw [hsn2.out]; exact ho3⟩
            · have hkk : k = 128 := by omega
              subst hkk
              have hrowF := hK2.row ho (own_far ho hS (by decide))
              have hRF := hK2.blk hRk (by omega)
              have e0 := hS2.cell 0 rfl
              have e1 := hS2.cell 1 rfl
              have e2 := hS2.cell 2 rfl
              have e4 := hS2.cell 4 rfl
              have z0 := hRF.frozen 0
              have z1 := hRF.frozen 1
              have z2 := hRF.frozen 2
              have z4 := hRF.frozen 4
              have z3' := hRF.frozen 3
              obtain ⟨A3, c3, rfl, _⟩ := own_slice ho2
              have e3 := hS2.cell 3 rfl
              have f0 := hRF.cell 0 rfl
              have f1 := hRF.cell 1 rfl
              have f2 := hRF.cell 2 rfl
              have f3 := hRF.cell 3 rfl
              have f4 := hRF.cell 4 rfl
              go_wp2
              have hF1 := hRF.set 0 (.int .i64 F)
              have hF2' := hF1.set 1 (.int .i64 U)
              have hF3 := hF2'.set 2 (.slice A2 (tentS ls).length c2)
              have hF4 := hF3.set 3 (.slice A3 (shK (allT ls) 128).length c3)
              have hFin := hF4.set 4 (.slice none 0 0)
              have g0 := hFin.cell 0 rfl
              have g1 := hFin.cell 1 rfl
              have g2 := hFin.cell 2 rfl
              have g3 := hFin.cell 3 rfl
              have g4 := hFin.cell 4 rfl
              have hEx := ((((hx2.set (p := ⟨w.heap.size + 1, 0, none⟩) (by dsimp only; omega) (.int .i64 F)).set (p := ⟨w.heap.size + 1, 1, none⟩) (by dsimp only; omega) (.int .i64 U)).set (p := ⟨w.heap.size + 1, 2, none⟩) (by dsimp only; omega) (.slice A2 (tentS ls).length c2)).set (p := ⟨w.heap.size + 1, 3, none⟩) (by dsimp only; omega) (.slice A3 (shK (allT ls) 128).length c3)).set (p := ⟨w.heap.size + 1, 4, none⟩) (by dsimp only; omega) (.slice none 0 0)
              have o2 := own_far hrowF hRF (by decide)
              have o3 := own_far ho2 hRF (by decide)
              have hfree : (scrubS tr ls).free = F := hF2.out
              have hused : (scrubS tr ls).used = U := hU2.out
              have hbd2 := cntU_le ls (tt tr) (spanN tr)
              have hFo := hF2.out
              have hUo := hU2.out
              refine bodyPost_ret (v := .agg #[.int .i64 F, .int .i64 U, .slice A2 (tentS ls).length c2, .slice A3 (shK (allT ls) 128).length c3, .slice none 0 0]) (by simp [results, Tryz.results11, go_sem, g0, g1, g2, g3, g4]) rfl ⟨A2, c2, A3, c3, ?_, ⟨?_, ?_, ⟨?_, htok, htlen⟩, ⟨?_, ?_, ?_⟩, ⟨?_, ?_, ?_⟩⟩, hEx⟩
              · rw [hfree, hused]; rfl
              · rw [hfree]; constructor <;> omega
              · rw [hused]; constructor <;> omega
              · exact Sl.own (own_set (own_set (own_set (own_set (own_set hrowF o2 _) o2 _) o2 _) o2 _) o2 _)
              · exact Sl.own (own_set (own_set (own_set (own_set (own_set ho2 o3 _) o3 _) o3 _) o3 _) o3 _)
              · intro q hq
                obtain ⟨i, hi, rfl⟩ := List.mem_map.1 hq
                have := List.mem_range.1 (List.mem_filter.1 hi).1
                constructor <;> omega
              · show ((shK (allT ls) 128).length : Int) ≤ _
                have := shK_len (allT ls) 128
                omega
              · exact Sl.nil _ _
              · intro q hq; cases hq
              · show ((0 : Nat) : Int) ≤ _; decide
end Go.Proofs.YtjdmgpefjehkaaaGreatDoor
