/- The walk of the law ScrubSectors. -/
import Derived.Test.YtjdmgpefjehkaaaGreatDoorAwake
import Derived.Test.YtjdmgpefjehkaaaGreatDoorFew
import Derived.Test.YtjdmgpefjehkaaaGreatDoorTableW
import Derived.Test.YtjdmgpefjehkaaaGreatDoorValidP
import Derived.Deep.RegionHeld3
import Derived.IntWalk
namespace Go.Proofs.YtjdmgpefjehkaaaGreatDoor
open Go.RowKit
attribute [local go_sem] Instr.field asAgg
set_option maxRecDepth 100000

theorem few_sm {nm : ByteArray} {ls : List Label} (h : fewT nm ls = true) : (∀ l ∈ ls, (l.ext.length : Int) ≤ 1000000) ∧ (ls.length : Int) ≤ 1000000 := by
  simp only [fewT, Bool.and_eq_true, List.all_eq_true, decide_eq_true_eq] at h
  refine ⟨fun l hl => ?_, by omega⟩
  have := h.1 l hl
  simp only [fewL, Bool.and_eq_true, decide_eq_true_eq] at this
  omega
theorem sumZ_bd (M : Int) (h0 : 0 ≤ M) : ∀ l : List Int, (∀ x ∈ l, 0 ≤ x ∧ x ≤ M) → 0 ≤ sumZ l ∧ sumZ l ≤ M * l.length
  | [], _ => by simp [sumZ]
  | x :: r, h => by
    have ih := sumZ_bd M h0 r fun y hy => h y (by simp [hy])
    have hx := h x (by simp)
    have e : M * ((x :: r).length : Int) = M * (r.length : Int) + M := by rw [List.length_cons, Int.natCast_add, Int.mul_add]; simp
    rw [sumZ, e]
    omega
theorem sector_bd {es : List Run} {s n : Int} (h : sectorT es s = some n) : 0 ≤ n ∧ n < 1024 := by
  unfold sectorT at h
  split at h
  · cases h
  · obtain ⟨t, ht, rfl⟩ := Option.map_eq_some_iff.1 h
    have := atT_bd ht
    omega
set_option maxHeartbeats 4000000 in
theorem w_ScrubSectors (nm : ByteArray) (tr : Int) (A : Option Addr) (c : Nat) (ls : List Label) (s : Int) (hs : I64 s) (w : World) (hA : Labels w A ls) (ht : Tab10 w) :
    Calls Tryz.prog 4 #[.agg #[.string nm, .int .i64 tr, .slice A ls.length c], .int .i64 s] w fun e w' => e = .returned (.bool true) ∧ Ext w w' := by
  have hu := Tryz.underlying24
  have hu2 := Tryz.underlying29
  have hu3 := Tryz.underlying43
  have hu4 := Tryz.underlying40
  have hneq := neqR
  have hTA := Blk.new w 24 [.string nm, .int .i64 tr, .slice A ls.length c]
  have hxA := (Ext.refl w).alloc (.cells #[.string nm, .int .i64 tr, .slice A ls.length c] 24)
  have HF := fun w => r_few08 nm tr A c ls w
  go_enter Tryz.func4, Tryz.ntmps4
  go_wp2_with fail
  refine (p_awake _ (ht.ext hxA)).mono ?_
  rintro e w1 ⟨rfl, e1⟩
  have hT1 := hTA.ext e1
  have hx1 := hxA.trans e1
  have a0 := hT1.cell 0 rfl
  have a1 := hT1.cell 1 rfl
  have a2 := hT1.cell 2 rfl
  clear hTA hxA e1
  cases hf : fewT nm ls with
  | false =>
    rw [hf] at HF
    have hf2 := Lib.hid hf
    clear hf
    go_wp2_with (go_at_call 7; refine (HF _ (hA.ext hx1)).mono ?_; clear HF; rintro e w3 ⟨rfl, hx3⟩)
    refine (p_awake _ (ht.ext (hx1.trans hx3))).mono ?_
    rintro e w4 ⟨rfl, hx4⟩
    go_wp2
    go_ret
    exact ⟨rfl, (hx1.trans hx3).trans hx4⟩
  | true =>
    obtain ⟨hse, hsm⟩ := few_sm hf
    rw [hf] at HF
    have hf2 := Lib.hid hf
    clear hf
    have HV := fun w => p_CValid nm tr A c ls hse w
    cases hv : validT nm tr ls with
    | false =>
      rw [hv] at HV
      have hv2 := Lib.hid hv
      clear hv
      go_wp2_with fail
      refine (HF _ (hA.ext hx1)).mono ?_
      clear HF
      rintro e w2 ⟨rfl, e2⟩
      have hT2 := hT1.ext e2
      have hx2 := hx1.trans e2
      clear a0 a1 a2
      have b0 := hT2.cell 0 rfl
      have b1 := hT2.cell 1 rfl
      have b2 := hT2.cell 2 rfl
      go_wp2_with fail
      refine (HV _ (hA.ext hx2)).mono ?_
      clear HV
      rintro e w3 ⟨rfl, e3⟩
      go_wp2_with fail
      refine (p_awake _ (ht.ext (hx2.trans e3))).mono ?_
      rintro e w4 ⟨rfl, hx4⟩
      go_wp2
      go_ret
      exact ⟨rfl, (hx2.trans e3).trans hx4⟩
    | true =>
      rw [hv] at HV
      have hvt := vt_of hv
      clear hv
      have HR := fun w => p_Refs nm tr A c ls w
      have HB := fun w => p_Bytes nm tr A c ls hsm hse w
      have HP := fun w => p_Table nm tr A c ls hsm hse w
      have HI := fun r w => p_Find nm tr A c ls hse r w
      have HO := fun n hn w => p_Owner nm tr A c ls n hn w
      have hsum := Lib.hid (bytes_sum hvt)
      have hown := Lib.hid (fun r hr n hn => sector_own hvt r hr s n hn)
      have hbl0 : (bytesS ls).length = (refsS ls).length := by unfold bytesS; rw [List.length_map]
      rw [hbl0] at HB
      have hbl := Lib.hid hbl0
      clear hbl0
      have hbg : Hid (∀ (i : Nat) (h : i < (refsS ls).length) (h2 : i < (bytesS ls).length), (bytesS ls)[i] = 1024 * ((seq (findL ls (refsS ls)[i]).ext).length : Int)) := fun i h h2 => by simp [bytesS, byteI]
      have hbb : ∀ x ∈ bytesS ls, 0 ≤ x ∧ x ≤ 131072000000 := fun x hx => by
        obtain ⟨r, _, rfl⟩ := List.mem_map.1 hx
        exact byteI_bd hse r
      have hrl : ((refsS ls).length : Int) ≤ 1000000 := by have := sortR_len (refsOf ls); have := refsOf_len ls; unfold refsS; omega
      clear hvt
      go_wp2_with fail
      refine (HF _ (hA.ext hx1)).mono ?_
      clear HF
      rintro e w2 ⟨rfl, e2⟩
      have hT2 := hT1.ext e2
      have hx2 := hx1.trans e2
      clear a0 a1 a2
      have b0 := hT2.cell 0 rfl
      have b1 := hT2.cell 1 rfl
      have b2 := hT2.cell 2 rfl
      go_wp2_with fail
      refine (HV _ (hA.ext hx2)).mono ?_
      clear HV
      rintro e w3 ⟨rfl, e3⟩
      have hT3 := hT2.ext e3
      have hx3 := hx2.trans e3
      clear b0 b1 b2 hT1 hT2 hx1 hx2 e2 e3
      have a0 := hT3.cell 0 rfl
      have a1 := hT3.cell 1 rfl
      have a2 := hT3.cell 2 rfl
      go_wp2_with fail
      refine (HR _ (hA.ext hx3)).mono ?_
      clear HR
      rintro e w4 ⟨R, cR, rfl, hR, e4, _⟩
      have hT4 := hT3.ext e4
      have hx4 := hx3.trans e4
      clear a0 a1 a2 hT3 hx3 e4
      go_wp2_with fail
      go_loopg [5, 32] (refsS ls).length (fun g m i wr => ∃ k : Nat, k + g = (refsS ls).length ∧ i = .int .i64 k ∧ m = .int .i64 (sumZ ((bytesS ls).take k)) ∧ Blk wr w.heap.size 24 [.string nm, .int .i64 tr, .slice A ls.length c] ∧ Ext w4 wr)
      case atStart => exact ⟨0, by omega, rfl, rfl, hT4, Ext.refl _⟩
      case round =>
        clear hT4
        obtain ⟨k, hk, rfl, rfl, hT, hx⟩ := hrel
        have hk := Lib.hid hk
        have a0 := hT.cell 0 rfl
        have a1 := hT.cell 1 rfl
        have a2 := hT.cell 2 rfl
        have lt1 := hT.lt
        rcases Nat.lt_or_ge k (refsS ls).length with hlt | hge
        · obtain ⟨b, o, rfl, q0, q1⟩ := (hR.ext hx).at_ hlt
          have hmem : (refsS ls)[k] ∈ refsS ls := List.getElem_mem hlt
          have hlt2 : k < (bytesS ls).length := by rw [hbl.out]; exact hlt
          have hbk := hbg.out k hlt hlt2
          have hbd := hbb _ (List.getElem_mem hlt2)
          have hst := Lib.hid (sumZ_take (bytesS ls) k hlt2)
          have hsb := sumZ_bd 131072000000 (by omega) ((bytesS ls).take k) (fun x hx => hbb x (List.mem_of_mem_take hx))
          have htl : (((bytesS ls).take k).length : Int) ≤ 1000000 := by simp; omega
          have hsb2 : 0 ≤ sumZ ((bytesS ls).take k) ∧ sumZ ((bytesS ls).take k) ≤ 131072000000000000 := ⟨hsb.1, by omega⟩
          have hok := hR.ok _ hmem
          have hoR := hown.out (refsS ls)[k] hmem
          have HIr := HI (refsS ls)[k]
          have hbC : ∀ W C, Ints W C (bytesS ls) → ∃ b o, C = some ⟨b, o, none⟩ ∧ W.cell? ⟨b, o + k, none⟩ = some (.int .i64 (bytesS ls)[k]) := fun W C h => h.at_ hlt2
          have hfe := findL_ext hse (refsS ls)[k]
          have hsq := seq_le (findL ls (refsS ls)[k]).ext
          clear hsb htl hmem
          generalize (refsS ls)[k] = r at *
          generalize findL ls r = l at *
          generalize (bytesS ls)[k] = bi at *
          generalize sumZ ((bytesS ls).take k) = sm at *
          have HZ := fun D cD w => size_any D cD l.ext w
          have hn0 : 0 ≤ ((seq l.ext).length : Int) := by omega
          have hn1 : ((seq l.ext).length : Int) ≤ 128000000 := by omega
          clear hsq hfe
          generalize ((seq l.ext).length : Int) = sz at *
          have HSec := fun D cD w => p_Sector l D cD s hs w
          cases hq : sectorT l.ext s with
          | none =>
            rw [hq] at HSec
            have HOn := fun w => HO 0 ⟨by omega, by omega⟩ w
            generalize ownS ls 0 = own at *
            clear hq hoR
            have hG := Blk.new wr 40 [.int .i64 r.id, .int .i64 r.unit]
            have eG := (Ext.refl wr).alloc (.cells #[.int .i64 r.id, .int .i64 r.unit] 40)
            go_wp2_with fail
            refine (HIr _ (hA.ext (hx4.trans (hx.trans eG)))).mono ?_
            rintro e w5 ⟨D, cD, rfl, hD, e5⟩
            have hT5 := hT.ext (eG.trans e5)
            have hG5 := hG.ext e5
            have hx5 := hx.trans (eG.trans e5)
            have hL := Blk.new w5 43 [.int .i64 l.id, .int .i64 l.unit, .string l.name, .string l.note, .slice D l.ext.length cD]
            have eL := (Ext.refl w5).alloc (.cells #[.int .i64 l.id, .int .i64 l.unit, .string l.name, .string l.note, .slice D l.ext.length cD] 43)
            clear a0 a1 a2 q0 q1 HIr hT hG eG e5
            go_wp2_with fail
            refine (HSec D cD _ (hD.ext eL)).mono ?_
            clear HSec
            rintro e w6 ⟨rfl, e6⟩
            have hT6 := hT5.ext (eL.trans e6)
            have hG6 := hG5.ext (eL.trans e6)
            have hL6 := hL.ext e6
            have hx6 := hx5.trans (eL.trans e6)
            have hD6 := hD.ext (eL.trans e6)
            clear hT5 hG5 hL hx5 hD eL e6
            have a0 := hT6.cell 0 rfl
            have a1 := hT6.cell 1 rfl
            have a2 := hT6.cell 2 rfl
            go_wp2_with fail
            refine (HOn _ (hA.ext (hx4.trans hx6))).mono ?_
            clear HOn
            rintro e w7 ⟨rfl, e7⟩
            have hO := Blk.new w7 40 [.int .i64 own.id, .int .i64 own.unit]
            have eO := (Ext.refl w7).alloc (.cells #[.int .i64 own.id, .int .i64 own.unit] 40)
            have e8 := e7.trans eO
            have hT8 := hT6.ext e8
            have hG8 := hG6.ext e8
            have hL8 := hL6.ext e8
            have hx8 := hx6.trans e8
            have hD8 := hD6.ext e8
            have hG7 := hG6.ext e7
            have hT7 := hT6.ext e7
            clear hT6 hG6 hL6 hx6 hD6 e7 eO e8 a0 a1 a2
            have a0 := hT7.cell 0 rfl
            have a1 := hT7.cell 1 rfl
            have a2 := hT7.cell 2 rfl
            have g0 := hG7.cell 0 rfl
            have g1 := hG7.cell 1 rfl
            have lt7 := hT7.lt
            have lg7 := hG7.lt
            go_wp2_with fail
            refine (HB _ (hA.ext (hx4.trans hx8))).mono ?_
            rintro e w9 ⟨C, cC, rfl, hC, e9⟩
            obtain ⟨ab, ao, rfl, c0⟩ := hbC _ _ hC
            have hT9 := hT8.ext e9
            have hL9 := hL8.ext e9
            have hx9 := hx8.trans e9
            have hD9 := hD8.ext e9
            clear a0 a1 a2 g0 g1 hbC hT8 hL8 hx8 hD8 hG8 hT7 hG7 hO e9 hC
            have l4 := hL9.cell 4 rfl
            have hge1 : decide ((refsS ls).length ≤ k) = false := decide_eq_false (by omega)
            have hne : (bi != 1024 * sz) = false := by simp [hbk]
            have hk1 := IntWalk.i64_in (1024 * sz) (by omega)
            have hk0 : (0 : Int) ≤ (k : Int) := by omega
            have hk2 : (k : Int) < ((refsS ls).length : Int) := by omega
            have hbk2 := Lib.hid hbk
            clear hbk
            have hx := hx9.drew
            generalize w5.heap.size = lb at *
            go_wp2_with fail
            go_region_held3 (fun w' => w'.cell? ⟨ab, ao + k, none⟩ = some (.int .i64 bi) ∧ w'.cell? ⟨lb, 4, none⟩ = some (.slice D l.ext.length cD)) (first | (go_split_ands; exact ⟨hy.cell (by assumption), hy.cell (by assumption)⟩) | go_keep) (first | (go_at_call 21; refine (HZ _ _ _ (hD9.ext (Ext.refl _).drew)).mono ?_; rintro e w10 ⟨rfl, hy⟩; have hx := hx.trans hy))
            have c1 := hy.cell (p := ⟨ab, ao + k, none⟩) c0
            clear hge1 hne hk1 c0 l4
            have hT10 := hT9.ext ((Ext.refl _).drew.trans hy)
            go_wp2
            go_roundg ((refsS ls).length - k - 1)
            case measure => have := hk.out; omega
            case rel => exact ⟨k + 1, by omega, by go_num, by rw [hst.out], hT10, hx⟩
          | some n =>
            rw [hq] at HSec
            have hnb := sector_bd hq
            have HOn := fun w => HO n ⟨by omega, by omega⟩ w
            rw [hoR n hq] at HOn
            clear hq hoR
            have hG := Blk.new wr 40 [.int .i64 r.id, .int .i64 r.unit]
            have eG := (Ext.refl wr).alloc (.cells #[.int .i64 r.id, .int .i64 r.unit] 40)
            go_wp2_with fail
            refine (HIr _ (hA.ext (hx4.trans (hx.trans eG)))).mono ?_
            rintro e w5 ⟨D, cD, rfl, hD, e5⟩
            have hT5 := hT.ext (eG.trans e5)
            have hG5 := hG.ext e5
            have hx5 := hx.trans (eG.trans e5)
            have hL := Blk.new w5 43 [.int .i64 l.id, .int .i64 l.unit, .string l.name, .string l.note, .slice D l.ext.length cD]
            have eL := (Ext.refl w5).alloc (.cells #[.int .i64 l.id, .int .i64 l.unit, .string l.name, .string l.note, .slice D l.ext.length cD] 43)
            clear a0 a1 a2 q0 q1 HIr hT hG eG e5
            go_wp2_with fail
            refine (HSec D cD _ (hD.ext eL)).mono ?_
            clear HSec
            rintro e w6 ⟨rfl, e6⟩
            have hT6 := hT5.ext (eL.trans e6)
            have hG6 := hG5.ext (eL.trans e6)
            have hL6 := hL.ext e6
            have hx6 := hx5.trans (eL.trans e6)
            have hD6 := hD.ext (eL.trans e6)
            clear hT5 hG5 hL hx5 hD eL e6
            have a0 := hT6.cell 0 rfl
            have a1 := hT6.cell 1 rfl
            have a2 := hT6.cell 2 rfl
            go_wp2_with fail
            refine (HOn _ (hA.ext (hx4.trans hx6))).mono ?_
            clear HOn
            rintro e w7 ⟨rfl, e7⟩
            have hO := Blk.new w7 40 [.int .i64 r.id, .int .i64 r.unit]
            have eO := (Ext.refl w7).alloc (.cells #[.int .i64 r.id, .int .i64 r.unit] 40)
            have e8 := e7.trans eO
            have hT8 := hT6.ext e8
            have hG8 := hG6.ext e8
            have hL8 := hL6.ext e8
            have hx8 := hx6.trans e8
            have hD8 := hD6.ext e8
            have hG7 := hG6.ext e7
            have hT7 := hT6.ext e7
            clear hT6 hG6 hL6 hx6 hD6 e7 eO e8 a0 a1 a2
            have a0 := hT7.cell 0 rfl
            have a1 := hT7.cell 1 rfl
            have a2 := hT7.cell 2 rfl
            have g0 := hG7.cell 0 rfl
            have g1 := hG7.cell 1 rfl
            have lt7 := hT7.lt
            have lg7 := hG7.lt
            go_wp2_with fail
            refine (HB _ (hA.ext (hx4.trans hx8))).mono ?_
            rintro e w9 ⟨C, cC, rfl, hC, e9⟩
            obtain ⟨ab, ao, rfl, c0⟩ := hbC _ _ hC
            have hT9 := hT8.ext e9
            have hL9 := hL8.ext e9
            have hx9 := hx8.trans e9
            have hD9 := hD8.ext e9
            clear a0 a1 a2 g0 g1 hbC hT8 hL8 hx8 hD8 hG8 hT7 hG7 hO e9 hC
            have l4 := hL9.cell 4 rfl
            have hge1 : decide ((refsS ls).length ≤ k) = false := decide_eq_false (by omega)
            have hne : (bi != 1024 * sz) = false := by simp [hbk]
            have hk1 := IntWalk.i64_in (1024 * sz) (by omega)
            have hk0 : (0 : Int) ≤ (k : Int) := by omega
            have hk2 : (k : Int) < ((refsS ls).length : Int) := by omega
            have hbk2 := Lib.hid hbk
            clear hbk
            have hx := hx9.drew
            generalize w5.heap.size = lb at *
            go_wp2_with fail
            go_region_held3 (fun w' => w'.cell? ⟨ab, ao + k, none⟩ = some (.int .i64 bi) ∧ w'.cell? ⟨lb, 4, none⟩ = some (.slice D l.ext.length cD)) (first | (go_split_ands; exact ⟨hy.cell (by assumption), hy.cell (by assumption)⟩) | go_keep) (first | (go_at_call 21; refine (HZ _ _ _ (hD9.ext (Ext.refl _).drew)).mono ?_; rintro e w10 ⟨rfl, hy⟩; have hx := hx.trans hy))
            have c1 := hy.cell (p := ⟨ab, ao + k, none⟩) c0
            clear hge1 hne hk1 c0 l4
            have hT10 := hT9.ext ((Ext.refl _).drew.trans hy)
            go_wp2
            go_roundg ((refsS ls).length - k - 1)
            case measure => have := hk.out; omega
            case rel => exact ⟨k + 1, by omega, by go_num, by rw [hst.out], hT10, hx⟩
        · have hkk : k = (refsS ls).length := by have := hk.out; omega
          have hfull : (bytesS ls).take k = bytesS ls := List.take_of_length_le (by rw [hbl.out]; exact hge)
          rw [hfull, hsum.out]
          have hcu := cntU_le ls (tt tr) (spanN tr)
          have hsp : (spanN tr : Int) ≤ 128 := by have := trk_bd tr; have := tt_bd tr; unfold spanN; omega
          have hu0 : 0 ≤ (scrubS tr ls).used := hcu.1
          have hu1 : (scrubS tr ls).used ≤ 128 := Int.le_trans hcu.2 hsp
          clear hcu hsp hfull hkk
          generalize (scrubS tr ls).free = F at *
          generalize (scrubS tr ls).used = U at *
          go_wp2_with fail
          refine (HP _ (hA.ext (hx4.trans hx))).mono ?_
          rintro e w5 ⟨P2, p2, P3, p3, rfl, _, e5⟩
          go_wp2
          go_ret
          exact ⟨by simp, (hx4.trans hx).trans e5⟩
end Go.Proofs.YtjdmgpefjehkaaaGreatDoor
