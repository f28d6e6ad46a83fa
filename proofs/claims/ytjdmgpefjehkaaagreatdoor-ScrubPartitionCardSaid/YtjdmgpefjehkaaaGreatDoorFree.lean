/- The contracts of extent.Minus, space.Free, contents.Free. -/
import Derived.Test.YtjdmgpefjehkaaaGreatDoorMix
import Derived.Test.YtjdmgpefjehkaaaGreatDoorCValid
import Derived.Test.YtjdmgpefjehkaaaGreatDoorApp
import Derived.Test.YtjdmgpefjehkaaaGreatDoorUsed
import Derived.Test.YtjdmgpefjehkaaaGreatDoorTableP
namespace Go.Proofs.YtjdmgpefjehkaaaGreatDoor
open Go.RowKit
attribute [local go_sem] Instr.field asAgg
set_option maxRecDepth 100000

def minusT (ra rb : List Run) : List Run := norm fun t => (ixT ra t).isSome && !(ixT rb t).isSome
theorem p_Minus (A : Option Addr) (ca : Nat) (ra : List Run) (B : Option Addr) (cb : Nat) (rb : List Run) (w : World) (hA : Runs w A ra) (hB : Runs w B rb) :
    Calls Tryz.prog 81 #[.slice A ra.length ca, .slice B rb.length cb] w fun e w' => ∃ v, e = .returned v ∧ OwnRuns w w' v (minusT ra rb) ∧ Ext w w' := by
  have hu2 := Tryz.underlying127
  have hu3 := Tryz.underlying128
  have hm : normTo (fun i : Nat => tabF false false true false (ixT ra i).isSome (ixT rb i).isSome) 128 = minusT ra rb :=
    normTo_congr (q := fun i : Nat => (ixT ra i).isSome && !(ixT rb i).isSome) 128 fun i _ => by cases (ixT ra i).isSome <;> cases (ixT rb i).isSome <;> rfl
  have HM := fun w => p_mix A ca ra B cb rb false false true false w
  rw [hm] at HM
  clear hm
  go_enter Tryz.func81, Tryz.ntmps81
  go_wp2_with fail
  refine (HM _ hA hB).mono ?_
  rintro e w1 ⟨v, rfl, hv, hx⟩
  go_wp2
  go_ret
  exact ⟨v, rfl, hv, hx⟩
def sfree (a b : Int) (rb : List Run) : List Run := if min 128 b ≤ max 0 a then [] else minusT [⟨max 0 a, min 128 b - max 0 a⟩] rb
theorem p_SFree (a b : Int) (ha : I64 a) (hb : I64 b) (B : Option Addr) (cb : Nat) (rb : List Run) (w : World) (hB : Runs w B rb) :
    Calls Tryz.prog 51 #[.int .i64 a, .int .i64 b, .slice B rb.length cb] w fun e w' => ∃ v, e = .returned v ∧ OwnRuns w w' v (sfree a b rb) ∧ Ext w w' := by
  have hu := Tryz.underlying68
  obtain ⟨a1, a2⟩ := ha
  obtain ⟨b1, b2⟩ := hb
  go_enter Tryz.func51, Tryz.ntmps51
  go_wp2_with fail
  · rename_i h1
    have hs := Lib.hid (show sfree a b rb = [] from if_pos (by omega))
    go_ret
    exact ⟨_, rfl, by rw [hs.out]; exact World.ownsRow_nil _ _ _ _, Ext.refl _⟩
  · rename_i h1
    have hG := Blk.new w 68 [.int .i64 (max 0 a), .int .i64 (min 128 b - max 0 a)]
    have hx := (Ext.refl w).alloc (.cells #[.int .i64 (max 0 a), .int .i64 (min 128 b - max 0 a)] 68)
    have hR : Runs (w.alloc (.cells #[.int .i64 (max 0 a), .int .i64 (min 128 b - max 0 a)] 68)) (some ⟨w.heap.size, 0, none⟩) [⟨max 0 a, min 128 b - max 0 a⟩] := run_here ⟨⟨by dsimp only; omega, by dsimp only; omega⟩, ⟨by dsimp only; omega, by dsimp only; omega⟩⟩ hG
    refine (p_Minus _ _ [⟨max 0 a, min 128 b - max 0 a⟩] B cb rb _ hR (hB.ext hx)).mono ?_
    rintro e w1 ⟨v, rfl, hv, hx1⟩
    have hs := Lib.hid (show sfree a b rb = minusT [⟨max 0 a, min 128 b - max 0 a⟩] rb from if_neg (by omega))
    go_wp2
    go_ret
    exact ⟨v, rfl, by rw [hs.out]; exact own_lower hv hx, hx.trans hx1⟩
noncomputable def freeC (nm : ByteArray) (tr : Int) (ls : List Label) : List Run := if validT nm tr ls = true then sfree (tt tr) tr (allE ls) else []
set_option maxHeartbeats 1000000 in
theorem p_CFree (nm : ByteArray) (tr : Int) (A : Option Addr) (c : Nat) (ls : List Label) (hse : ∀ l ∈ ls, (l.ext.length : Int) ≤ 1000000) (hsm : (ls.length : Int) ≤ 1000000) (htr : I64 tr) (w : World) (hA : Labels w A ls) :
    Calls Tryz.prog 22 #[.agg #[.string nm, .int .i64 tr, .slice A ls.length c]] w fun e w' => ∃ v, e = .returned v ∧ OwnRuns w w' v (freeC nm tr ls) ∧ Ext w w' := by
  have hu := Tryz.underlying24
  have hu2 := Tryz.underlying43
  have HV := fun w => p_CValid nm tr A c ls hse w
  have hxA := (Ext.refl w).alloc (.cells #[.string nm, .int .i64 tr, .slice A ls.length c] 24)
  have hTA := Blk.new w 24 [.string nm, .int .i64 tr, .slice A ls.length c]
  cases hv : validT nm tr ls with
  | false =>
    rw [hv] at HV
    have hs := Lib.hid (show freeC nm tr ls = [] by unfold freeC; rw [hv]; rfl)
    clear hv
    go_enter Tryz.func22, Tryz.ntmps22
    go_wp2_with fail
    refine (HV _ (hA.ext hxA)).mono ?_
    rintro e w1 ⟨rfl, e1⟩
    go_wp2
    go_ret
    exact ⟨_, rfl, by rw [hs.out]; exact World.ownsRow_nil _ _ _ _, hxA.trans e1⟩
  | true =>
    rw [hv] at HV
    have hs := Lib.hid (show freeC nm tr ls = sfree (tt tr) tr (allE ls) by unfold freeC; rw [hv]; rfl)
    clear hv
    go_enter Tryz.func22, Tryz.ntmps22
    go_wp2_with fail
    refine (HV _ (hA.ext hxA)).mono ?_
    rintro e w1 ⟨rfl, e1⟩
    have hx1 := hxA.trans e1
    have hT1 := hTA.ext e1
    have dd2 := hT1.cell 2 rfl
    clear hxA hTA e1 HV
    go_wp2_with fail
    go_loopg [3, 12] ls.length (fun g v i wr => ∃ k : Nat, k + g = ls.length ∧ i = .int .i64 k ∧ wr.ownsRow w.heap.size 68 2 v (allE (ls.take k)).length ((allE (ls.take k)).flatMap runCells) ∧ Blk wr w.heap.size 24 [.string nm, .int .i64 tr, .slice A ls.length c] ∧ Ext w wr)
    case atStart => exact ⟨0, by omega, rfl, World.ownsRow_nil _ _ _ _, hT1, hx1⟩
    case round =>
      clear hT1 hx1 dd2
      obtain ⟨k, hk, rfl, ho, hT, hx⟩ := hrel
      have hk := Lib.hid hk
      rcases Nat.lt_or_ge k ls.length with hlt | hge
      · obtain ⟨b, o, B, cB, rfl, a0, a1, a2, a3, a4, hR, hc⟩ := hA.at_ hlt
        have h0 := hx.cell a0
        have h1 := hx.cell a1
        have h2 := hx.cell a2
        have h3 := hx.cell a3
        have h4 := hx.cell a4
        have hsk := hse _ (List.getElem_mem hlt)
        have hlen := allE_len (ls.take k) (fun l hl => hse l (List.mem_of_mem_take hl))
        have hlen2 : ((ls.take k).length : Int) ≤ 1000000 := by simp; omega
        have hsn := Lib.hid (allE_snoc ls k hlt)
        have hxl := (Ext.refl wr).alloc (.cells #[.int .i64 ls[k].id, .int .i64 ls[k].unit, .string ls[k].name, .string ls[k].note, .slice B ls[k].ext.length cB] 43)
        have hoL := own_ext ho hxl
        have hfar := own_far hoL (hT.ext hxl) (by decide)
        go_wp2_with (at_builtin; refine app_src w.heap.size rfl _ _ _ 68 (.agg #[.int .i64 0, .int .i64 0]) 2 16 rfl Tryz.underlying41 run_info rfl (by omega) (by omega) u3 _ _ B ls[k].ext.length cB (ls[k].ext.flatMap runCells) rfl rfl (runs_len _) (runs_one _) (hR.ext (hx.trans hxl)).sl hoL (hx.trans hxl).le (by omega) ?_; intro v1 w4 oB gA _)
        go_roundg (ls.length - k - 1)
        case measure => have := hk.out; omega
        case rel => exact ⟨k + 1, by omega, by go_num, by rw [hsn.out, List.length_append, List.flatMap_append]; exact oB, (hT.ext hxl).grown gA hfar, (hx.trans hxl).grown gA fun q hq => (hoL.lt q hq).1⟩
      · have hkk : k = ls.length := by have := hk.out; omega
        rw [List.take_of_length_le hge] at ho
        have hel := allE_len ls hse
        have hok : ∀ r ∈ allE ls, r.ok := fun r hr => by
          obtain ⟨l, hl, hm⟩ := List.mem_flatMap.1 hr
          obtain ⟨j, hj, rfl⟩ := List.getElem_of_mem hl
          obtain ⟨_, _, B, cB, _, _, _, _, _, _, hR, _⟩ := hA.at_ hj
          exact hR.ok r hm
        obtain ⟨B, cB, rfl, hBR⟩ : ∃ B cB, u3 = .slice B (allE ls).length cB ∧ Runs wr B (allE ls) := by
          obtain ⟨B, cB, hv, _⟩ := own_slice ho
          subst hv
          exact ⟨B, cB, rfl, Sl.own ho, hok, by omega⟩
        have d1 := hT.cell 1 rfl
        have hb := tt_bd tr
        have HT := fun w => p_tt tr w
        have HF := fun w h => p_SFree (tt tr) tr ⟨by omega, by omega⟩ ⟨htr.1, htr.2⟩ B cB (allE ls) w h
        generalize tt tr = z at *
        go_wp2_with fail
        go_region_held3 (fun w' => w'.cell? ⟨w.heap.size, 1, none⟩ = some (.int .i64 tr)) (first | go_keep | exact hy.cell (by assumption)) (first | (go_at_call 30; refine (HT _).mono ?_; rintro e w7 ⟨rfl, rfl⟩) | (go_at_call 51; refine (HF _ (hBR.ext (Ext.refl _).drew)).mono ?_; rintro e w7 ⟨v, rfl, hv, hy⟩))
        go_wp2
        go_ret
        exact ⟨v, rfl, by rw [hs.out]; exact own_lower hv hx.drew, hx.drew.trans hy⟩
end Go.Proofs.YtjdmgpefjehkaaaGreatDoor
