/- The contracts of scrub.owner, scrub.Owner, dasdref09.Owner, dasdref15.Owner: all tell 'ownS'. -/
import Derived.Test.YtjdmgpefjehkaaaGreatDoorExtent
import Derived.Test.YtjdmgpefjehkaaaGreatDoorRef05
import Derived.Test.YtjdmgpefjehkaaaGreatDoorSmall
import Derived.Test.YtjdmgpefjehkaaaGreatDoorTab
import Derived.BigRegion
import Derived.ChangeAlike
namespace Go.Proofs.YtjdmgpefjehkaaaGreatDoor
open Go.RowKit
attribute [local go_sem] Instr.field asAgg
set_option maxRecDepth 100000

theorem p_owner (nm : ByteArray) (tr : Int) (A : Option Addr) (c : Nat) (ls : List Label) (t : Int) (ht : I64 t) (w : World) (hA : Labels w A ls) :
    Calls Tryz.prog 32 #[.agg #[.string nm, .int .i64 tr, .slice A ls.length c], .int .i64 t] w fun e w' =>
      e = .returned (.tuple #[.int .i64 (((ownerT ls t).getD (0, 0)).1 : Nat), .int .i64 (((ownerT ls t).getD (0, 0)).2 : Nat), .bool (ownerT ls t).isSome]) ∧ Ext w w' := by
  have hl := hA.len
  have hu := Tryz.underlying43
  have hu2 := Tryz.underlying24
  go_enter Tryz.func32, Tryz.ntmps32
  go_wp2
  go_loopg [14] ls.length (fun g i wr => ∃ k : Nat, k + g = ls.length ∧ i = .int .i64 k ∧ Hid (∀ j (h : j < ls.length), j < k → ixT ls[j].ext t = none) ∧ Ext w wr)
  case atStart => exact ⟨0, by omega, rfl, fun j _ h => by omega, (Ext.refl w).alloc _⟩
  case round =>
    obtain ⟨k, hk, rfl, hn, hx⟩ := hrel
    have hk := Lib.hid hk
    rcases Nat.lt_or_ge k ls.length with hlt | hge
    · obtain ⟨b, o, B, cb, rfl, h0, h1, h2, h3, h4, hB, _⟩ := (hA.ext hx).at_ hlt
      go_wp2_with fail
      refine (index_any B cb _ t ht _ (hB.ext ((Ext.refl _).alloc _))).mono ?_
      rintro e w1 ⟨rfl, hx1⟩
      have hx2 := hx.trans (((Ext.refl _).alloc _).trans hx1)
      cases hi : ixT ls[k].ext t with
      | none =>
        have hi := Lib.hid hi
        go_wp2
        go_roundg (ls.length - k - 1)
        case measure => have := hk.out; omega
        case rel => exact ⟨k + 1, by omega, by go_num, all_snoc (P := fun l : Label => ixT l.ext t = none) hn.out hlt hi.out, hx2⟩
      | some m =>
        have he := ownerT_some t m ls k hlt hn.out hi
        have hi := Lib.hid hi
        have he := Lib.hid he
        go_wp2
        go_ret3
        rw [he.out]
        exact ⟨rfl, hx2⟩
    · have he := ownerT_none t ls (fun j hj => hn.out j hj (by omega))
      have he := Lib.hid he
      go_wp2
      go_ret3
      rw [he.out]
      exact ⟨rfl, hx⟩

theorem p_Owner (nm : ByteArray) (tr : Int) (A : Option Addr) (c : Nat) (ls : List Label) (s : Int) (hs : I64 s) (w : World) (hA : Labels w A ls) :
    Calls Tryz.prog 20 #[.agg #[.string nm, .int .i64 tr, .slice A ls.length c], .int .i64 s] w fun e w' =>
      e = .returned (.tuple #[.agg #[.int .i64 (ownS ls s).id, .int .i64 (ownS ls s).unit], .int .i64 (ownS ls s).n, .bool (ownS ls s).is]) ∧ Ext w w' := by
  have hl := hA.len
  have hu := Tryz.underlying43
  have hu2 := Tryz.underlying24
  have hu3 := Tryz.underlying40
  obtain ⟨s1, s2⟩ := hs
  by_cases hneg : s < 0
  · have he := Lib.hid (ownS_neg ls s hneg)
    go_enter Tryz.func20, Tryz.ntmps20
    go_wp2
    exact bodyPost_ret (v := .tuple #[.agg #[.int .i64 0, .int .i64 0], .int .i64 0, .bool false]) (by simp [results, Tryz.results20, go_sem]) rfl ⟨by rw [he.out], by repeat (first | exact Ext.refl _ | refine Ext.alloc ?_ _)⟩
  · have h0 : 0 ≤ s := by omega
    clear hneg
    go_enter Tryz.func20, Tryz.ntmps20
    go_wp2_with fail
    refine (p_owner nm tr A c ls (s / 8) ⟨by omega, by omega⟩ _ (hA.ext (((Ext.refl _).alloc _).alloc _))).mono ?_
    rintro e w1 ⟨rfl, hx1⟩
    have hx := (((Ext.refl w).alloc _).alloc _).trans hx1
    have hT := (((Blk.new w 24 [.string nm, .int .i64 tr, .slice A ls.length c]).alloc (.cells #[.int .i64 0, .int .i64 0] 40)).ext hx1)
    have hR := (Blk.new_at (w := w.alloc (.cells #[.string nm, .int .i64 tr, .slice A ls.length c] 24)) (g := w.heap.size + 1) (by simp) 40 [.int .i64 0, .int .i64 0]).ext hx1
    have d2 := hT.cell 2 rfl
    have c0 := hR.cell 0 rfl
    have c1 := hR.cell 1 rfl
    have z0 := hR.frozen 0
    have z1 := hR.frozen 1
    cases hi : ownerT ls (s / 8) with
    | none =>
      have he := Lib.hid (ownS_none ls s h0 hi)
      have hi := Lib.hid hi
      go_wp2
      have hF := (hR.set 0 (.int .i64 0)).set 1 (.int .i64 0)
      have e0 := hF.cell 0 rfl
      have e1 := hF.cell 1 rfl
      exact bodyPost_ret (v := .tuple #[.agg #[.int .i64 0, .int .i64 0], .int .i64 0, .bool false]) (by simp [results, Tryz.results20, go_sem, e0, e1]) rfl ⟨by rw [he.out], by repeat (first | exact hx | refine Ext.set ?_ (by dsimp only; omega) _)⟩
    | some p =>
      obtain ⟨k, m⟩ := p
      obtain ⟨hk, hm⟩ := ownerT_at _ _ _ _ hi
      have hml := ixT_lt _ _ _ hm
      have hm := Lib.hid hm
      have he := Lib.hid (ownS_some ls s h0 hk hi)
      obtain ⟨b, o, B, cb, rfl, a0, a1, _, _, a4, hB, _⟩ := (hA.ext hx).at_ hk
      have hsl := seq_le ls[k].ext
      have hbl := hB.len
      have hi := Lib.hid hi
      go_wp2
      go_region
      go_wp2
      have hF := ((hR.set 0 (.int .i64 ls[k].id)).set 1 (.int .i64 ls[k].unit)).drew
      have e0 := hF.cell 0 rfl
      have e1 := hF.cell 1 rfl
      exact bodyPost_ret (v := .tuple #[.agg #[.int .i64 ls[k].id, .int .i64 ls[k].unit], .int .i64 ((m : Int) * 8 + s % 8), .bool true]) (by simp [results, Tryz.results20, go_sem, e0, e1]) rfl ⟨by rw [he.out], by repeat (first | exact hx | refine Ext.drew ?_ | refine Ext.set ?_ (by dsimp only; omega) _)⟩

end Go.Proofs.YtjdmgpefjehkaaaGreatDoor
