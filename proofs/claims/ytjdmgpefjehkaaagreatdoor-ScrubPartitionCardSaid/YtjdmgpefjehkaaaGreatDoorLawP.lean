/- The walk of the law ScrubPartition. -/
import Derived.Test.YtjdmgpefjehkaaaGreatDoorAwake
import Derived.Test.YtjdmgpefjehkaaaGreatDoorFew
import Derived.Test.YtjdmgpefjehkaaaGreatDoorTableW
import Derived.Test.YtjdmgpefjehkaaaGreatDoorValidP
import Derived.Deep.RegionHeld3
import Derived.IntWalk
namespace Go.Proofs.YtjdmgpefjehkaaaGreatDoor
open Go.RowKit
attribute [local go_sem] Instr.field asAgg
set_option maxRecDepth 100000

theorem few_sm {nm : ByteArray} {ls : List Label} (h : fewT nm ls = true) : (∀ l ∈ ls, (l.ext.length : Int) ≤ 1000000) ∧ (ls.length : Int) ≤ 1000000 := by
  simp only [fewT, Bool.and_eq_true, List.all_eq_true, decide_eq_true_eq] at h
  refine ⟨fun l hl => ?_, by omega⟩
  have := h.1 l hl
  simp only [fewL, Bool.and_eq_true, decide_eq_true_eq] at this
  omega
theorem freeT_ok (tr : Int) (ls : List Label) : ∀ r ∈ freeT tr ls, r.ok := normTo_ok (fun i : Nat => freeP tr ls (i : Int)) 128 (by omega)
theorem freeT_len (tr : Int) (ls : List Label) : ((freeT tr ls).length : Int) ≤ 8796093022208 := by
  have := normTo_len (fun i : Nat => freeP tr ls (i : Int)) 128
  unfold freeT norm
  omega
theorem neq_false {a b : Int} (h : a = b) : (a != b) = false := by simp [h]
set_option maxHeartbeats 4000000 in
theorem w_ScrubPartition (nm : ByteArray) (tr : Int) (A : Option Addr) (c : Nat) (ls : List Label) (htr : I64 tr) (w : World) (hA : Labels w A ls) (ht : Tab10 w) :
    Calls Tryz.prog 5 #[.agg #[.string nm, .int .i64 tr, .slice A ls.length c]] w fun e w' => e = .returned (.bool true) ∧ Ext w w' := by
  have hu := Tryz.underlying24
  have hu2 := Tryz.underlying29
  have hTA := Blk.new w 24 [.string nm, .int .i64 tr, .slice A ls.length c]
  have hxA := (Ext.refl w).alloc (.cells #[.string nm, .int .i64 tr, .slice A ls.length c] 24)
  have HF := fun w => r_few08 nm tr A c ls w
  go_enter Tryz.func5, Tryz.ntmps5
  go_wp2_with fail
  refine (p_awake _ (ht.ext hxA)).mono ?_
  rintro e w1 ⟨rfl, e1⟩
  have hT1 := hTA.ext e1
  have hx1 := hxA.trans e1
  have a0 := hT1.cell 0 rfl
  have a1 := hT1.cell 1 rfl
  have a2 := hT1.cell 2 rfl
  clear hTA hxA e1
  cases hf : fewT nm ls with
  | false =>
    rw [hf] at HF
    have hf2 := Lib.hid hf
    clear hf
    go_wp2_with (go_at_call 7; refine (HF _ (hA.ext hx1)).mono ?_; clear HF; rintro e w3 ⟨rfl, hx3⟩)
    refine (p_awake _ (ht.ext (hx1.trans hx3))).mono ?_
    rintro e w4 ⟨rfl, hx4⟩
    go_wp2
    go_ret
    exact ⟨rfl, (hx1.trans hx3).trans hx4⟩
  | true =>
    obtain ⟨hse, hsm⟩ := few_sm hf
    rw [hf] at HF
    have hf2 := Lib.hid hf
    clear hf
    have HV := fun w => p_CValid nm tr A c ls hse w
    cases hv : validT nm tr ls with
    | false =>
      rw [hv] at HV
      have hv2 := Lib.hid hv
      clear hv
      go_wp2_with fail
      refine (HF _ (hA.ext hx1)).mono ?_
      clear HF
      rintro e w2 ⟨rfl, e2⟩
      have hT2 := hT1.ext e2
      have hx2 := hx1.trans e2
      clear a0 a1 a2
      have b0 := hT2.cell 0 rfl
      have b1 := hT2.cell 1 rfl
      have b2 := hT2.cell 2 rfl
      go_wp2_with fail
      refine (HV _ (hA.ext hx2)).mono ?_
      clear HV
      rintro e w3 ⟨rfl, e3⟩
      go_wp2_with fail
      refine (p_awake _ (ht.ext (hx2.trans e3))).mono ?_
      rintro e w4 ⟨rfl, hx4⟩
      go_wp2
      go_ret
      exact ⟨rfl, (hx2.trans e3).trans hx4⟩
    | true =>
      rw [hv] at HV
      have HC := fun w => p_CFree nm tr A c ls hse hsm htr w
      have HM := fun w => p_Map nm tr A c ls w
      have HP := fun w => p_Table nm tr A c ls hsm hse w
      rw [freeC_eq hv] at HC
      have hvt := vt_of hv
      clear hv
      rw [shared_of hvt] at HP
      have hspan := span_of hvt
      have hcu := cntU_le ls (tt tr) (spanN tr)
      have hfl : ((seq (freeT tr ls)).length : Int) = (scrubS tr ls).free := free_len hvt
      have hFU : (scrubS tr ls).free + (scrubS tr ls).used = tr - tt tr := by
        show (spanN tr : Int) - cntU ls (tt tr) (spanN tr) + cntU ls (tt tr) (spanN tr) = _
        omega
      have hF0 : 0 ≤ (scrubS tr ls).free := by omega
      have hU0 : 0 ≤ (scrubS tr ls).used := hcu.1
      have hlo := hvt.lo
      have hhi := hvt.hi
      have htt := tt_bd tr
      have HS := fun B cb w => size_any B cb (freeT tr ls) w
      have HK := fun B cb (t : Int) ht w => contains_any B cb (freeT tr ls) t ht w
      have HT := fun w => r_tt tr w
      have hml : ((mapS tr ls).length : Int) = tr := by
        show ((((List.range (trk tr).toNat).map (mapI tr ls)).length : Nat) : Int) = tr
        rw [List.length_map, List.length_range, hvt.trk]
        omega
      have hmi := Lib.hid (fun (i : Nat) (h : (i : Int) < tr) => map_free hvt i h)
      have hmg : Hid (∀ (i : Nat) (h : i < (mapS tr ls).length), (mapS tr ls)[i] = mapI tr ls i) := fun i h => by simp [mapS]
      rw [hfl] at HS
      clear hcu hspan hvt hfl
      generalize (scrubS tr ls).free = F at *
      generalize (scrubS tr ls).used = U at *
      generalize hz : tt tr = z at *
      have hz := Lib.hid hz
      go_wp2_with fail
      refine (HF _ (hA.ext hx1)).mono ?_
      clear HF
      rintro e w2 ⟨rfl, e2⟩
      have hT2 := hT1.ext e2
      have hx2 := hx1.trans e2
      clear a0 a1 a2
      have b0 := hT2.cell 0 rfl
      have b1 := hT2.cell 1 rfl
      have b2 := hT2.cell 2 rfl
      go_wp2_with fail
      refine (HV _ (hA.ext hx2)).mono ?_
      clear HV
      rintro e w3 ⟨rfl, e3⟩
      have hT3 := hT2.ext e3
      have hx3 := hx2.trans e3
      clear b0 b1 b2 hT1 hT2 hx1 hx2 e2 e3
      have a0 := hT3.cell 0 rfl
      have a1 := hT3.cell 1 rfl
      have a2 := hT3.cell 2 rfl
      go_wp2_with fail
      refine (HP _ (hA.ext hx3)).mono ?_
      clear HP
      rintro e w4 ⟨P2, p2, P3, p3, rfl, hS4, e4⟩
      have hT4 := hT3.ext e4
      have hx4 := hx3.trans e4
      clear a0 a1 a2 hT3 hx3 e4
      have hX := Blk.new w4 29 [.int .i64 F, .int .i64 U, .slice P2 (tentS ls).length p2, .slice P3 0 p3, .slice none 0 0]
      have hT5 := hT4.alloc (.cells #[.int .i64 F, .int .i64 U, .slice P2 (tentS ls).length p2, .slice P3 0 p3, .slice none 0 0] 29)
      have hx5 := hx4.alloc (.cells #[.int .i64 F, .int .i64 U, .slice P2 (tentS ls).length p2, .slice P3 0 p3, .slice none 0 0] 29)
      have a0 := hT4.cell 0 rfl
      have a1 := hT4.cell 1 rfl
      have a2 := hT4.cell 2 rfl
      have lt4 := hT4.lt
      go_wp2_with fail
      refine (HC _ (hA.ext hx5)).mono ?_
      clear HC
      rintro e w6 ⟨v, rfl, hv, e6⟩
      obtain ⟨B, cb, rfl, _, hB⟩ := hv.runs (freeT_ok tr ls) (freeT_len tr ls)
      have hT6 := hT5.ext e6
      have hX6 := hX.ext e6
      have hx6 := hx5.trans e6
      clear a0 a1 a2 hT4 hx4 hT5 hX hx5 e6 lt4
      have a0 := hT6.cell 0 rfl
      have a1 := hT6.cell 1 rfl
      have a2 := hT6.cell 2 rfl
      have b0 := hX6.cell 0 rfl
      have b1 := hX6.cell 1 rfl
      have b3 := hX6.cell 3 rfl
      have b4 := hX6.cell 4 rfl
      have hq := neq_false hFU
      generalize w4.heap.size = xb at *
      have hx := hx6.drew
      have k1 := IntWalk.i64_in (F + U) (by omega)
      have k2 := IntWalk.i64_in (tr - z) (by omega)
      go_wp2_with fail
      go_region_held3 (fun w' => w'.cell? ⟨xb, 0, none⟩ = some (.int .i64 F) ∧ w'.cell? ⟨xb, 1, none⟩ = some (.int .i64 U) ∧ w'.cell? ⟨xb, 3, none⟩ = some (.slice P3 0 p3) ∧ w'.cell? ⟨xb, 4, none⟩ = some (.slice none 0 0) ∧ w'.cell? ⟨w.heap.size, 1, none⟩ = some (.int .i64 tr)) (first | (go_split_ands; exact ⟨hy.cell (by assumption), hy.cell (by assumption), hy.cell (by assumption), hy.cell (by assumption), hy.cell (by assumption)⟩) | go_keep) (first | (go_at_call 21; refine (HS _ _ _ (hB.ext (Ext.refl _).drew)).mono ?_; rintro e w7 ⟨rfl, hy⟩; have hx := hx.trans hy) | (go_at_call 23; refine (HT _).mono ?_; rintro e w8 ⟨rfl, rfl⟩))
      clear k1 k2 hq
      have hT7 := hT6.ext ((Ext.refl _).drew.trans hy)
      have hB7 := hB.ext ((Ext.refl _).drew.trans hy)
      clear a0 a1 a2 b0 b1 b3 b4 hT6 hX6 hx6
      have a0 := hT7.cell 0 rfl
      have a1 := hT7.cell 1 rfl
      have a2 := hT7.cell 2 rfl
      go_wp2_with fail
      refine (HM _ (hA.ext hx)).mono ?_
      clear HM
      rintro e w8 ⟨C, cc, rfl, hC, e8⟩
      have hT8 := hT7.ext e8
      have hB8 := hB7.ext e8
      have hx8 := hx.trans e8
      clear a0 a1 a2 hT7 hB7 hx
      have hne := neq_false hml
      have hml2 := Lib.hid hml
      clear hml
      have a1 := hT8.cell 1 rfl
      go_wp2_with fail
      clear hne
      go_loopg [65] (mapS tr ls).length (fun g i wr => ∃ k : Nat, k + g = (mapS tr ls).length ∧ i = .int .i64 k ∧ Blk wr w.heap.size 24 [.string nm, .int .i64 tr, .slice A ls.length c] ∧ Runs wr B (freeT tr ls) ∧ Ext w8 wr)
      case atStart => exact ⟨0, by omega, rfl, hT8, hB8, Ext.refl _⟩
      case round =>
        clear hT8 hB8 a1
        obtain ⟨k, hk, rfl, hT, hR, hx⟩ := hrel
        have hk := Lib.hid hk
        have a1 := hT.cell 1 rfl
        rcases Nat.lt_or_ge k (mapS tr ls).length with hlt | hge
        · obtain ⟨b, o, rfl, q0⟩ := (hC.ext hx).at_ hlt
          have hki : (k : Int) < tr := by have := hml2.out; omega
          obtain ⟨m1, m2⟩ := hmi.out k hki
          have hmk := hmg.out k hlt
          have HKk := fun w => HK B cb k ⟨by omega, by omega⟩ w
          rw [← m1] at HKk
          clear m1
          generalize (mapS tr ls)[k] = v at *
          subst hmk
          go_wp2_with fail
          refine (HKk _ hR).mono ?_
          rintro e w9 ⟨rfl, e9⟩
          have hT9 := hT.ext e9
          clear a1
          have a1 := hT9.cell 1 rfl
          go_wp2_with (go_at_call 23; refine (HT _).mono ?_; rintro e w9 ⟨rfl, rfl⟩)
          go_roundg ((mapS tr ls).length - k - 1)
          case measure => have := hk.out; omega
          case rel => exact ⟨k + 1, by omega, by go_num, hT9, hR.ext e9, hx.trans e9⟩
        · go_wp2
          go_ret
          exact ⟨rfl, hx8.trans hx⟩
end Go.Proofs.YtjdmgpefjehkaaaGreatDoor
