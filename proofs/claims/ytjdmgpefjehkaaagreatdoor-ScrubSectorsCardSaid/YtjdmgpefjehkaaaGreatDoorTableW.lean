/- scrub.Table: the walk. -/
import Derived.Test.YtjdmgpefjehkaaaGreatDoorTableP
import Derived.Test.YtjdmgpefjehkaaaGreatDoorMap
import Derived.Test.YtjdmgpefjehkaaaGreatDoorPLines
namespace Go.Proofs.YtjdmgpefjehkaaaGreatDoor
open Go.RowKit
attribute [local go_sem] Instr.field asAgg
set_option maxRecDepth 100000

set_option maxHeartbeats 4000000 in
theorem p_Table (nm : ByteArray) (tr : Int) (A : Option Addr) (c : Nat) (ls : List Label) (hsm : (ls.length : Int) ≤ 1000000) (hse : ∀ l ∈ ls, (l.ext.length : Int) ≤ 1000000) (w : World) (hA : Labels w A ls) :
    Calls Tryz.prog 10 #[.agg #[.string nm, .int .i64 tr, .slice A ls.length c]] w fun e w' => ∃ A2 c2 A3 c3, e = .returned (.agg #[.int .i64 (scrubS tr ls).free, .int .i64 (scrubS tr ls).used, .slice A2 (tentS ls).length c2, .slice A3 (sharedS ls).length c3, .slice none 0 0]) ∧ ScrubOk w' (scrubS tr ls) A2 A3 none ∧ Ext w w' := by
  have hu1 := Tryz.underlying29
  have hu2 := Tryz.underlying24
  have hu3 := Tryz.underlying43
  have hu4 := Tryz.underlying40
  have hu5 := Tryz.underlying68
  have hb := trk_bd tr
  have htt : 0 ≤ tt tr ∧ tt tr ≤ 128 := by
    unfold tt
    cases h : okT tr with
    | false => simp
    | true => have := okT_yes h; simp; omega
  go_enter Tryz.func10, Tryz.ntmps10
  go_wp2_with fail
  refine (p_tt tr _).mono ?_
  rintro e w1 ⟨rfl, rfl⟩
  have hsp : (tt tr : Int) + spanN tr = trk tr ∨ (trk tr < tt tr ∧ spanN tr = 0) := by unfold spanN; omega
  go_wp2_with fail
  go_loopg [4] (spanN tr) (fun g i wr => ∃ k : Nat, k + g = spanN tr ∧ i = .int .i64 (tt tr + k) ∧ Blk wr w.heap.size 24 [.string nm, .int .i64 tr, .slice A ls.length c] ∧ Blk wr (w.heap.size + 1) 29 [.int .i64 0, .int .i64 0, .slice none 0 0, .slice none 0 0, .slice none 0 0] ∧ Blk wr (w.heap.size + 1 + 1) 29 [.int .i64 (k - cntU ls (tt tr) k), .int .i64 (cntU ls (tt tr) k), .slice none 0 0, .slice none 0 0, .slice none 0 0] ∧ Ext w wr)
  case atStart => exact ⟨0, by omega, by simp, ((Blk.new w _ [_, _, _]).alloc _).alloc _, (Blk.new_at (by simp) _ [_, _, _, _, _]).alloc _, Blk.new_at (by simp) _ [_, _, _, _, _], (((Ext.refl w).alloc _).alloc _).alloc _⟩
  case round =>
    obtain ⟨k, hk, rfl, hT, hR, hS, hx⟩ := hrel
    have hk := Lib.hid hk
    have d0 := hT.cell 0 rfl
    have d1 := hT.cell 1 rfl
    have d2 := hT.cell 2 rfl
    go_wp2_with fail
    refine (p_tracks nm tr A _ c _).mono ?_
    rintro e w1 ⟨rfl, hx1⟩
    clear d0 d1 d2
    have hT1 := hT.ext hx1
    have hR1 := hR.ext hx1
    have hS1 := hS.ext hx1
    have hy1 := hx.trans hx1
    have d0 := hT1.cell 0 rfl
    have d1 := hT1.cell 1 rfl
    have d2 := hT1.cell 2 rfl
    rcases Nat.lt_or_ge k (spanN tr) with hlt | hge
    · have hq : (tt tr : Int) + k < trk tr := by omega
      go_wp2_with fail
      refine (p_owner nm tr A c ls (tt tr + k) ⟨by omega, by omega⟩ _ (hA.ext hy1)).mono ?_
      rintro e w2 ⟨rfl, hx2⟩
      clear d0 d1 d2
      have hT2 := hT1.ext hx2
      have hR2 := hR1.ext hx2
      have hS2 := hS1.ext hx2
      have hy2 := hy1.trans hx2
      have e0 := hS2.cell 0 rfl
      have e1 := hS2.cell 1 rfl
      have z0 := hS2.frozen 0
      have z1 := hS2.frozen 1
      have hle := hy2.le
      have hu := Lib.hid (cntU_succ ls (tt tr) k)
      have hbd := cntU_le ls (tt tr) k
      cases hi : (ownerT ls (tt tr + k)).isSome with
      | true =>
        have hi := Lib.hid hi
        go_wp2
        go_roundg (spanN tr - k - 1)
        case measure => have := hk.out; omega
        case rel => exact ⟨k + 1, by omega, by go_num, hT2.far (by dsimp only; omega) _, hR2.far (by dsimp only; omega) _, by rw [hu.out, hi.out]; simpa [Int.add_sub_add_right] using hS2.set 1 (.int .i64 (cntU ls (tt tr) k + 1)), hy2.set (by simp; omega) _⟩
      | false =>
        have hi := Lib.hid hi
        go_wp2
        go_roundg (spanN tr - k - 1)
        case measure => have := hk.out; omega
        case rel => exact ⟨k + 1, by omega, by go_num, hT2.far (by dsimp only; omega) _, hR2.far (by dsimp only; omega) _, by rw [hu.out, hi.out]; have := hS2.set 0 (.int .i64 (k - cntU ls (tt tr) k + 1)); rw [show (((k + 1 : Nat) : Int) - (cntU ls (tt tr) k + if (false = true) then 1 else 0)) = k - cntU ls (tt tr) k + 1 by simp; omega]; simpa using this, hy2.set (by simp; omega) _⟩
    · have hq : trk tr ≤ (tt tr : Int) + k := by omega
      have hkk : k = spanN tr := by have := hk.out; omega
      have hle := hy1.le
      have hbd := cntU_le ls (tt tr) k
      have hSd := hS1
      rw [hkk] at hS1
      generalize hF : (spanN tr : Int) - cntU ls (tt tr) (spanN tr) = F at hS1
      generalize hU : cntU ls (tt tr) (spanN tr) = U at hS1
      have hF := Lib.hid hF
      have hU := Lib.hid hU
      have hltR := hR1.lt
      have hltS := hS1.lt
      clear hSd hS hT hR hx
      go_wp2_with (go_at_call 17; refine (p_Refs nm tr A c ls _ (hA.ext hy1)).mono ?_; rintro e w2 ⟨B, cb, rfl, hRf, hx2, hBf⟩)
      have hT2 := hT1.ext hx2
      have hR2 := hR1.ext hx2
      have hS2 := hS1.ext hx2
      have hy2 := hy1.trans hx2
      have hle2 := hx2.le
      have hle2' := Nat.le_trans hle hx2.size
      clear hT1 hR1 hS1 hx1 d0 d1 d2
      go_loopg [47] (refsS ls).length (fun g i wr => ∃ k : Nat, k + g = (refsS ls).length ∧ i = .int .i64 k ∧ Kp (w.heap.size + 1 + 1) w2 wr ∧ Ext w wr ∧ ∃ v, Blk wr (w.heap.size + 1 + 1) 29 [.int .i64 F, .int .i64 U, v, .slice none 0 0, .slice none 0 0] ∧ wr.ownsRow w2.heap.size 40 2 v (((refsS ls).take k).filter fun r => r.unit != 0).length ((((refsS ls).take k).filter fun r => r.unit != 0).flatMap refCells))
      case atStart => exact ⟨0, by omega, rfl, Kp.refl _ _, hy2, _, hS2, World.ownsRow_nil _ _ _ _⟩
      case round =>
        clear hk hkk hge hq
        obtain ⟨k, hk, rfl, hK, hx, v, hS, ho⟩ := hrel
        have hk := Lib.hid hk
        have d2 := hS.cell 2 rfl
        have z2 := hS.frozen 2
        have dl := hS.lt
        have hKs := hK.size
        have hRl := hRf.len
        rcases Nat.lt_or_ge k (refsS ls).length with hlt | hge
        · have hRk := hK.refs hRf (fun a ha => by have := hBf a ha; omega)
          obtain ⟨b, o, rfl, a0, a1⟩ := hRk.at_ hlt
          have hm : (((refsS ls).take k).filter fun r => r.unit != 0).length ≤ k := Nat.le_trans (List.length_filter_le _ _) (by simp; omega)
          have hft : ((refsS ls).take (k + 1)).filter (fun r => r.unit != 0) = ((refsS ls).take k).filter (fun r => r.unit != 0) ++ ([(refsS ls)[k]].filter fun r => r.unit != 0) := by rw [List.take_succ_eq_append_getElem hlt, List.filter_append]
          have hok := hRf.ok _ (List.getElem_mem hlt)
          generalize (refsS ls)[k] = r at *
          cases hu : (r.unit == 0) with
          | true =>
            have hun : (r.unit != 0) = false := by simp [bne, hu]
            have hft2 : Hid (((refsS ls).take (k + 1)).filter (fun r => r.unit != 0) = ((refsS ls).take k).filter (fun r => r.unit != 0)) := by unfold Hid; rw [hft]; simp [hun]
            clear hft
            go_wp2
            go_roundg ((refsS ls).length - k - 1)
            case measure => have := hk.out; omega
            case rel => exact ⟨k + 1, by omega, by go_num, hK.ext ((Ext.refl _).alloc _), hx.alloc _, v, hS.alloc _, by rw [hft2.out]; exact own_ext ho ((Ext.refl _).alloc _)⟩
          | false =>
            have hun : (r.unit != 0) = true := by simp [bne, hu]
            have hft2 : Hid (((refsS ls).take (k + 1)).filter (fun r => r.unit != 0) = ((refsS ls).take k).filter (fun r => r.unit != 0) ++ [r]) := by unfold Hid; rw [hft]; simp [hun]
            clear hft
            have hfar := own_far ho hS (by decide)
            have hoA := own_ext ho ((Ext.refl _).alloc (.cells #[.int .i64 r.id, .int .i64 r.unit] 40))
            have hSA := hS.alloc (.cells #[.int .i64 r.id, .int .i64 r.unit] 40)
            have hKA := hK.ext ((Ext.refl _).alloc (.cells #[.int .i64 r.id, .int .i64 r.unit] 40))
            have hxA := hx.alloc (.cells #[.int .i64 r.id, .int .i64 r.unit] 40)
            have hlow := fun q hq => (ho.lt q hq).1
            go_wp2_with (at_builtin; refine app2 w2.heap.size rfl _ _ _ 40 (.agg #[.int .i64 0, .int .i64 0]) 2 16 rfl Tryz.underlying25 ref_info rfl (by omega) (by omega) v _ _ (refCells r) rfl (by simp [Value.oneCell', refCells]) rfl _ rfl (by simp) hoA (by simp; omega) (by omega) ?_; intro v1 w3 oB gA; have hS3 := hSA.grown gA hfar; have z3 := hS3.frozen 2; have e2 := hS3.cell 2 rfl; obtain ⟨A1, k1, rfl, _⟩ := own_slice oB)
            go_roundg ((refsS ls).length - k - 1)
            case measure => have := hk.out; omega
            case rel => exact ⟨k + 1, by omega, by go_num, (hKA.grown gA hlow).set 2 _, (hxA.grown gA fun q hq => Nat.le_trans hle2' (hlow q hq)).set (by dsimp only; omega) _, _, hS3.set 2 _, by
              rw [hft2.out, List.length_append, List.flatMap_append]
              exact own_set (by simpa using oB) (own_far oB hS3 (by decide)) _⟩
        · have hkk : k = (refsS ls).length := by have := hk.out; omega
          rw [List.take_of_length_le hge] at ho
          subst hkk
          change wr.ownsRow w2.heap.size _ 2 v (tentS ls).length ((tentS ls).flatMap refCells) at ho
          have hT := hK.blk hT2 (by omega)
          have hR := hK.blk hR2 (by omega)
          have d2 := hT.cell 2 rfl
          have dl := hT.lt
          have hmm := run_mk
          have hM := MapIs.new wr
          have hxm := hx.alloc (.map #[] 0)
          have hSm := hS.alloc (.map #[] 0)
          have hTm := hT.alloc (.map #[] 0)
          have hRm := hR.alloc (.map #[] 0)
          have hom := own_ext ho ((Ext.refl _).alloc (.map #[] 0))
          have hmb : w.heap.size + 1 + 1 < wr.heap.size := hS.lt
          have htok : ∀ r ∈ tentS ls, I64 r.id ∧ I64 r.unit := fun r hr => hRf.ok r (List.mem_filter.1 hr).1
          have htlen : ((tentS ls).length : Int) ≤ 8796093022208 := by
            have : (tentS ls).length ≤ (refsS ls).length := List.length_filter_le _ _
            omega
          have hown := fun q hq => (ho.lt q hq).1
          have hol := fun q hq => (ho.lt q hq).2
          clear hK hRf hBf hKs hRl hT2 hR2 hS2 hT hR ho hS hx hk hge z2
          go_wp2
          generalize wr.heap.size = mb at *
          generalize wr.alloc (.map #[] 0) = wm at *
          have hmbm := hM.lt
          go_loopg [65] ls.length (fun g i wr => ∃ k : Nat, k + g = ls.length ∧ i = .int .i64 k ∧ Kp mb wm wr ∧ Ext w wr ∧ MapIs wr mb (allT (ls.take k)))
          case atStart => exact ⟨0, by omega, rfl, Kp.refl _ _, hxm, hM⟩
          case round =>
            clear d2 hM hxm
            obtain ⟨k, hk, rfl, hK, hx, hM⟩ := hrel
            have hk := Lib.hid hk
            rcases Nat.lt_or_ge k ls.length with hlt | hge
            · obtain ⟨b, o, B, cB, rfl, a0, a1, a2, a3, a4, hRB, hc⟩ := hA.at_ hlt
              have h0 := hx.cell a0
              have h1 := hx.cell a1
              have h2 := hx.cell a2
              have h3 := hx.cell a3
              have h4 := hx.cell a4
              have hsek := hse _ (List.getElem_mem hlt)
              have hab := allT_len (ls.take (k + 1)) (fun l hl => hse l (List.mem_of_mem_take hl))
              have hab2 : ((ls.take (k + 1)).length : Int) ≤ 1000000 := by simp; omega
              rw [allT_snoc ls k hlt, List.length_append] at hab
              have hsn := Lib.hid (allT_snoc ls k hlt)
              have hKl := hK.ext ((Ext.refl _).alloc (.cells #[.int .i64 ls[k].id, .int .i64 ls[k].unit, .string ls[k].name, .string ls[k].note, .slice B ls[k].ext.length cB] 43))
              have hxl := hx.alloc (.cells #[.int .i64 ls[k].id, .int .i64 ls[k].unit, .string ls[k].name, .string ls[k].note, .slice B ls[k].ext.length cB] 43)
              have hMl : MapIs (wr.alloc (.cells #[.int .i64 ls[k].id, .int .i64 ls[k].unit, .string ls[k].name, .string ls[k].note, .slice B ls[k].ext.length cB] 43)) mb (allT (ls.take k)) := hM.kept (((Ext.refl _).alloc _).block _ hM.lt)
              go_wp2_with fail
              generalize wr.alloc (.cells #[.int .i64 ls[k].id, .int .i64 ls[k].unit, .string ls[k].name, .string ls[k].note, .slice B ls[k].ext.length cB] 43) = wl at *
              go_loopg [72] ls[k].ext.length (fun g i wr => ∃ j : Nat, j + g = ls[k].ext.length ∧ i = .int .i64 j ∧ Kp mb wm wr ∧ Ext w wr ∧ MapIs wr mb (allT (ls.take k) ++ seq (ls[k].ext.take j)))
              case atStart => exact ⟨0, by omega, rfl, hKl, hxl, by simpa [seq] using hMl⟩
              case round =>
                clear h0 h1 h2 h3 h4 hM hMl hK hKl hx hxl
                obtain ⟨j, hj, rfl, hK, hx, hM⟩ := hrel
                have hj := Lib.hid hj
                rcases Nat.lt_or_ge j ls[k].ext.length with hlt2 | hge2
                · obtain ⟨b2, o2, rfl, q0, q1⟩ := hRB.at_ hlt2
                  have h0 := hx.cell q0
                  have h1 := hx.cell q1
                  have hok := hRB.okAt hlt2
                  have hst := Lib.hid (seq_take ls[k].ext j hlt2)
                  have hcnt : ((allT (ls.take k) ++ seq (ls[k].ext.take j)).length : Int) + (seqR ls[k].ext[j]).length ≤ 128000000000000 := by
                    have e1 := seq_take ls[k].ext j hlt2
                    have e2 : (seq (ls[k].ext.take (j + 1))).length ≤ (seq ls[k].ext).length := by
                      conv => rhs; rw [← List.take_append_drop (j + 1) ls[k].ext]
                      unfold seq; rw [List.flatMap_append, List.length_append]; omega
                    rw [e1, List.length_append] at e2
                    rw [List.length_append]
                    omega
                  generalize ls[k].ext[j] = r at *
                  have hlen1 : (seq [r]).length = (seqR r).length := by rw [seq_one]
                  have hKr := hK.ext ((Ext.refl _).alloc (.cells #[.int .i64 r.f, .int .i64 r.c] 68))
                  have hxr := hx.alloc (.cells #[.int .i64 r.f, .int .i64 r.c] 68)
                  have hMr : MapIs (wr.alloc (.cells #[.int .i64 r.f, .int .i64 r.c] 68)) mb _ := hM.kept (((Ext.refl _).alloc _).block _ hM.lt)
                  have hMw := hM.lt
                  have hG := Blk.new wr 68 [.int .i64 r.f, .int .i64 r.c]
                  have hG2 : Blk ((wr.alloc (.cells #[.int .i64 r.f, .int .i64 r.c] 68)).alloc (.cells #[.int .i64 r.f, .int .i64 r.c] 68)) (wr.heap.size + 1) 68 [.int .i64 r.f, .int .i64 r.c] := Blk.new_at (by simp) _ [_, _]
                  go_wp2_with (go_at_call 21; refine (size_any _ _ [r] _ (run_here hok hG2)).mono ?_; rintro e w4 ⟨rfl, hx4⟩)
                  have hx5 := ((Ext.refl (wr.alloc (.cells #[.int .i64 r.f, .int .i64 r.c] 68))).alloc (.cells #[.int .i64 r.f, .int .i64 r.c] 68)).trans hx4
                  have hG5 := hG.ext hx5
                  have hM5 := hMr.kept (hx5.block _ hMr.lt)
                  have hK5 := hKr.ext hx5
                  have hy5 := hxr.trans hx5
                  clear hG hG2 hKr hMr hxr hx4 hx5 hK hx hM h0 h1
                  have hgb0 : mb < wr.heap.size := hMw
                  generalize wr.heap.size = gb at *
                  have hgb := hgb0
                  go_loopg [79] (seq [r]).length (fun g i wr => ∃ m : Nat, m + g = (seq [r]).length ∧ i = .int .i64 m ∧ Kp mb wm wr ∧ Ext w wr ∧ Blk wr gb 68 [.int .i64 r.f, .int .i64 r.c] ∧ MapIs wr mb (allT (ls.take k) ++ seq (ls[k].ext.take j) ++ (seq [r]).take m))
                  case atStart => exact ⟨0, by omega, rfl, hK5, hy5, hG5, by simpa using hM5⟩
                  case round =>
                    clear hG5 hM5 hK5 hy5
                    obtain ⟨m, hm, rfl, hK, hx, hG, hM⟩ := hrel
                    have hm := Lib.hid hm
                    have g0 := hG.cell 0 rfl
                    have g1 := hG.cell 1 rfl
                    rcases Nat.lt_or_ge m (seq [r]).length with hlt3 | hge3
                    · have hat : atT [r] (m : Int) = some (seq [r])[m] := atT_get [r] m hlt3
                      have hto := Lib.hid (take_one (seq [r]) m hlt3)
                      have hbd : ((allT (ls.take k) ++ seq (ls[k].ext.take j) ++ (seq [r]).take m).count (seq [r])[m] : Int) ≤ 128000000000000 := by
                        have := List.count_le_length (a := (seq [r])[m]) (l := allT (ls.take k) ++ seq (ls[k].ext.take j) ++ (seq [r]).take m)
                        rw [List.length_append, List.length_take] at this
                        omega
                      have HA := fun W hr => at_any (some ⟨wr.heap.size, 0, none⟩) 1 [r] m ⟨by omega, by omega⟩ W hr
                      rw [hat] at HA
                      clear hat
                      generalize (seq [r])[m] = n at *
                      have hG2 : Blk (wr.alloc (.cells #[.int .i64 r.f, .int .i64 r.c] 68)) wr.heap.size 68 [.int .i64 r.f, .int .i64 r.c] := Blk.new wr 68 [_, _]
                      have hMa := hM.kept (((Ext.refl _).alloc (.cells #[.int .i64 r.f, .int .i64 r.c] 68)).block _ hM.lt)
                      go_wp2_with fail
                      refine (HA _ (run_here hok hG2)).mono ?_
                      rintro e w4 ⟨rfl, hx4⟩
                      have hM4 := hMa.kept (hx4.block _ hMa.lt)
                      have hx5 := ((Ext.refl wr).alloc (.cells #[.int .i64 r.f, .int .i64 r.c] 68)).trans hx4
                      have hget := hM4.get n
                      obtain ⟨ob, hput, hM6⟩ := hM4.put n
                      generalize hcv : ((allT (ls.take k) ++ seq (ls[k].ext.take j) ++ (seq [r]).take m).count n : Int) = cv at *
                      have hcv := Lib.hid hcv
                      have hcv0 : 0 ≤ cv := by rw [← hcv.out]; omega
                      have hput2 : ∀ {a : World}, a.heap.size ≤ mb → Ext a w4 → Ext a { w4 with heap := w4.heap.setIfInBounds mb ob } := fun hq h => h.putO hq ob
                      clear hM4 hMa hM HA
                      go_wp2_with (at_lookup; refine wpList_look rfl _ _ _ _ rfl rfl rfl hget ?_)
                      go_roundg ((seq [r]).length - m - 1)
                      case measure => have := hm.out; omega
                      case rel => exact ⟨m + 1, by omega, by go_num, (hK.ext hx5).put ob, hput2 (by omega) (hx.trans hx5), (hG.ext hx5).putO (by omega) ob, by rw [hto.out, ← List.append_assoc]; exact hM6⟩
                    · have hmm : m = (seq [r]).length := by have := hm.out; omega
                      rw [List.take_of_length_le hge3, seq_one, List.append_assoc, ← hst.out] at hM
                      go_wp2
                      go_roundg (ls[k].ext.length - j - 1)
                      case measure => have := hj.out; omega
                      case rel => exact ⟨j + 1, by omega, by go_num, hK, hx, hM⟩
                · have hjj : j = ls[k].ext.length := by have := hj.out; omega
                  rw [List.take_of_length_le hge2, ← hsn.out] at hM
                  go_wp2
                  go_roundg (ls.length - k - 1)
                  case measure => have := hk.out; omega
                  case rel => exact ⟨k + 1, by omega, by go_num, hK, hx, hM⟩
            · have hkk : k = ls.length := by have := hk.out; omega
              rw [List.take_of_length_le hge] at hM
              subst hkk
              obtain ⟨wf, hwf⟩ : ∃ x, x = wr := ⟨_, rfl⟩
              subst hwf
              obtain ⟨A2, c2, rfl, _⟩ := own_slice hom
              have hS := hK.blk hSm (by omega)
              have hR := hK.blk hRm (by omega)
              have hrow := hK.row hom (by intro e; have := hol mb e.symm; omega)
              have hlt1 := hR.lt
              have hlt2 := hS.lt
              have hxle := hx.le
              have htl : (allT ls).length ≤ 9000000000000000 := by have := allT_len ls hse; omega
              go_wp2
              go_loopg [96] 128 (fun g i wr => ∃ k : Nat, k + g = 128 ∧ i = .int .i64 k ∧ Kp (w.heap.size + 1 + 1) wf wr ∧ Ext w wr ∧ ∃ v2, Blk wr (w.heap.size + 1 + 1) 29 [.int .i64 F, .int .i64 U, .slice A2 (tentS ls).length c2, v2, .slice none 0 0] ∧ wr.ownsRow wf.heap.size 3 1 v2 (shK (allT ls) k).length (intCells (shK (allT ls) k)))
              case atStart => exact ⟨0, by omega, rfl, Kp.refl _ _, hx, _, hS, World.ownsRow_nil _ _ _ _⟩
              case round =>
                clear hk hge
                obtain ⟨k, hk, rfl, hK2, hx2, v2, hS2, ho2⟩ := hrel
                have hk := Lib.hid hk
                have d3 := hS2.cell 3 rfl
                have z3 := hS2.frozen 3
                have dl := hS2.lt
                have hM2 := hM.kept (hK2.block mb hM.lt (by omega))
                have hget := hM2.get k
                have hK2s := hK2.size
                have hlk := shK_len (allT ls) k
                rcases Nat.lt_or_ge k 128 with hlt | hge
                · by_cases hc : 1 < (allT ls).count (k : Int)
                  · have hsy := Lib.hid (shK_yes (allT ls) k hc)
                    generalize (allT ls).count (k : Int) = cn at *
                    have hcI : (1 : Int) < cn := by omega
                    have hfar := own_far ho2 hS2 (by decide)
                    have hlow := fun q hq => (ho2.lt q hq).1
                    go_wp2_with (first | (at_lookup; refine wpList_look rfl _ _ _ _ rfl rfl rfl hget ?_) | (at_builtin; refine app2 wf.heap.size rfl _ _ _ 3 (.int .i64 0) 1 8 rfl Tryz.underlying26 int_info rfl (by omega) (by omega) v2 _ _ [.int .i64 k] rfl (by simp [Value.oneCell']) rfl _ rfl (by simp) ho2 hK2s (by omega) ?_; intro v1 w3 oB gA; have hS3 := hS2.grown gA hfar; have z3 := hS3.frozen 3; have y3 := hS3.cell 3 rfl; obtain ⟨A1, k1, rfl, _⟩ := own_slice oB))
                    go_roundg (128 - k - 1)
                    case measure => have := hk.out; omega
                    case rel => exact ⟨k + 1, by omega, by go_num, (hK2.grown gA hlow).set 3 _, (hx2.grown gA fun q hq => Nat.le_trans hxle (hlow q hq)).set (by dsimp only; omega) _, _, hS3.set 3 _, by
                      rw [hsy.out, List.length_append, ← intCells_snoc]
                      exact own_set oB (own_far oB hS3 (by decide)) _⟩
                  · have hsn2 := Lib.hid (shK_no (allT ls) k hc)
                    generalize (allT ls).count (k : Int) = cn at *
                    have hcI : (cn : Int) ≤ 1 := by omega
                    clear hc
                    go_wp2_with (at_lookup; refine wpList_look rfl _ _ _ _ rfl rfl rfl hget ?_)
                    go_roundg (128 - k - 1)
                    case measure => have := hk.out; omega
                    case rel => exact ⟨k + 1, by omega, by go_num, hK2, hx2, _, hS2, by rw [hsn2.out]; exact ho2⟩
                · have hkk : k = 128 := by have := hk.out; omega
                  subst hkk
                  have hrowF := hK2.row hrow (own_far hrow hS (by decide))
                  have hRF := hK2.blk hR (by omega)
                  have e0 := hS2.cell 0 rfl
                  have e1 := hS2.cell 1 rfl
                  have e2 := hS2.cell 2 rfl
                  have e4 := hS2.cell 4 rfl
                  have z0 := hRF.frozen 0
                  have z1 := hRF.frozen 1
                  have z2 := hRF.frozen 2
                  have z4 := hRF.frozen 4
                  have z3' := hRF.frozen 3
                  obtain ⟨A3, c3, rfl, _⟩ := own_slice ho2
                  have f0 := hRF.cell 0 rfl
                  have f1 := hRF.cell 1 rfl
                  have f2 := hRF.cell 2 rfl
                  have f3 := hRF.cell 3 rfl
                  have f4 := hRF.cell 4 rfl
                  clear hget hM2 hM
                  go_wp2
                  have hF1 := hRF.set 0 (.int .i64 F)
                  have hF2 := hF1.set 1 (.int .i64 U)
                  have hF3 := hF2.set 2 (.slice A2 (tentS ls).length c2)
                  have hF4 := hF3.set 3 (.slice A3 (shK (allT ls) 128).length c3)
                  have hFin := hF4.set 4 (.slice none 0 0)
                  have g0 := hFin.cell 0 rfl
                  have g1 := hFin.cell 1 rfl
                  have g2 := hFin.cell 2 rfl
                  have g3 := hFin.cell 3 rfl
                  have g4 := hFin.cell 4 rfl
                  have hEx : Ext w (((((wr.setCell ⟨w.heap.size + 1, 0, none⟩ (.int .i64 F)).setCell ⟨w.heap.size + 1, 1, none⟩ (.int .i64 U)).setCell ⟨w.heap.size + 1, 2, none⟩ (.slice A2 (tentS ls).length c2)).setCell ⟨w.heap.size + 1, 3, none⟩ (.slice A3 (shK (allT ls) 128).length c3)).setCell ⟨w.heap.size + 1, 4, none⟩ (.slice none 0 0)) := by
                    repeat (first | exact hx2 | refine Ext.set ?_ (by dsimp only; omega) _)
                  have o2 := own_far hrowF hRF (by decide)
                  have o3 := own_far ho2 hRF (by decide)
                  have hfree : (scrubS tr ls).free = F := hF.out
                  have hused : (scrubS tr ls).used = U := hU.out
                  have hbd2 := cntU_le ls (tt tr) (spanN tr)
                  have hFo := hF.out
                  have hUo := hU.out
                  refine bodyPost_ret (v := .agg #[.int .i64 F, .int .i64 U, .slice A2 (tentS ls).length c2, .slice A3 (shK (allT ls) 128).length c3, .slice none 0 0]) (by simp [results, Tryz.results10, go_sem, g0, g1, g2, g3, g4]) rfl ⟨A2, c2, A3, c3, ?_, ⟨?_, ?_, ⟨?_, htok, htlen⟩, ⟨?_, ?_, ?_⟩, ⟨?_, ?_, ?_⟩⟩, hEx⟩
                  · rw [hfree, hused]; rfl
                  · rw [hfree]; constructor <;> omega
                  · rw [hused]; constructor <;> omega
                  · exact Sl.own (own_set (own_set (own_set (own_set (own_set hrowF o2 _) o2 _) o2 _) o2 _) o2 _)
                  · exact Sl.own (own_set (own_set (own_set (own_set (own_set ho2 o3 _) o3 _) o3 _) o3 _) o3 _)
                  · intro q hq
                    obtain ⟨i, hi, rfl⟩ := List.mem_map.1 hq
                    have := List.mem_range.1 (List.mem_filter.1 hi).1
                    constructor <;> omega
                  · show ((shK (allT ls) 128).length : Int) ≤ _
                    have := shK_len (allT ls) 128
                    omega
                  · exact Sl.nil _ _
                  · intro q hq; cases hq
                  · show ((0 : Nat) : Int) ≤ _; decide
end Go.Proofs.YtjdmgpefjehkaaaGreatDoor
