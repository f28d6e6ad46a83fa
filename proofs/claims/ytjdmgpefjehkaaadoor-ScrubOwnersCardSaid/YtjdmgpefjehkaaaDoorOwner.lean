/- The contracts of scrub.owner, scrub.Owner, dasdref09.Owner, dasdref15.Owner: all tell 'ownS'. -/
import Derived.Test.YtjdmgpefjehkaaaDoorExtent
import Derived.Test.YtjdmgpefjehkaaaDoorRef05b
import Derived.Test.YtjdmgpefjehkaaaDoorSmall
import Derived.Test.YtjdmgpefjehkaaaDoorTab
import Derived.BigRegion
import Derived.ChangeAlike
namespace Go.Proofs.YtjdmgpefjehkaaaDoor
open Go.RowKit
attribute [local go_sem] Instr.field asAgg
set_option maxRecDepth 100000

theorem p_owner (nm : ByteArray) (tr : Int) (A : Option Addr) (c : Nat) (ls : List Label) (t : Int) (ht : I64 t) (w : World) (hA : Labels w A ls) :
    Calls Tryd.prog 24 #[.agg #[.string nm, .int .i64 tr, .slice A ls.length c], .int .i64 t] w fun e w' =>
      e = .returned (.tuple #[.int .i64 (((ownerT ls t).getD (0, 0)).1 : Nat), .int .i64 (((ownerT ls t).getD (0, 0)).2 : Nat), .bool (ownerT ls t).isSome]) ∧ Ext w w' := by
  have hl := hA.len
  have hu := Tryd.underlying55
  have hu2 := Tryd.underlying34
  go_enter Tryd.func24, Tryd.ntmps24
  go_wp2
  go_loopg [14] ls.length (fun g i wr => ∃ k : Nat, k + g = ls.length ∧ i = .int .i64 k ∧ Hid (∀ j (h : j < ls.length), j < k → ixT ls[j].ext t = none) ∧ Ext w wr)
  case atStart => exact ⟨0, by omega, rfl, fun j _ h => by omega, (Ext.refl w).alloc _⟩
  case round =>
    obtain ⟨k, hk, rfl, hn, hx⟩ := hrel
    have hk := Lib.hid hk
    rcases Nat.lt_or_ge k ls.length with hlt | hge
    · obtain ⟨b, o, B, cb, rfl, h0, h1, h2, h3, h4, hB, _⟩ := (hA.ext hx).at_ hlt
      go_wp2_with fail
      refine (index_any B cb _ t ht _ (hB.ext ((Ext.refl _).alloc _))).mono ?_
      rintro e w1 ⟨rfl, hx1⟩
      have hx2 := hx.trans (((Ext.refl _).alloc _).trans hx1)
      cases hi : ixT ls[k].ext t with
      | none =>
        have hi := Lib.hid hi
        go_wp2
        go_roundg (ls.length - k - 1)
        case measure => have := hk.out; omega
        case rel => exact ⟨k + 1, by omega, by go_num, all_snoc (P := fun l : Label => ixT l.ext t = none) hn.out hlt hi.out, hx2⟩
      | some m =>
        have he := ownerT_some t m ls k hlt hn.out hi
        have hi := Lib.hid hi
        have he := Lib.hid he
        go_wp2
        go_ret3
        rw [he.out]
        exact ⟨rfl, hx2⟩
    · have he := ownerT_none t ls (fun j hj => hn.out j hj (by omega))
      have he := Lib.hid he
      go_wp2
      go_ret3
      rw [he.out]
      exact ⟨rfl, hx⟩

theorem p_Owner (nm : ByteArray) (tr : Int) (A : Option Addr) (c : Nat) (ls : List Label) (s : Int) (hs : I64 s) (w : World) (hA : Labels w A ls) :
    Calls Tryd.prog 11 #[.agg #[.string nm, .int .i64 tr, .slice A ls.length c], .int .i64 s] w fun e w' =>
      e = .returned (.tuple #[.agg #[.int .i64 (ownS ls s).id, .int .i64 (ownS ls s).unit], .int .i64 (ownS ls s).n, .bool (ownS ls s).is]) ∧ Ext w w' := by
  have hl := hA.len
  have hu := Tryd.underlying55
  have hu2 := Tryd.underlying34
  have hu3 := Tryd.underlying37
  obtain ⟨s1, s2⟩ := hs
  by_cases hneg : s < 0
  · have he := Lib.hid (ownS_neg ls s hneg)
    go_enter Tryd.func11, Tryd.ntmps11
    go_wp2
    exact bodyPost_ret (v := .tuple #[.agg #[.int .i64 0, .int .i64 0], .int .i64 0, .bool false]) (by simp [results, Tryd.results11, go_sem]) rfl ⟨by rw [he.out], by repeat (first | exact Ext.refl _ | refine Ext.alloc ?_ _)⟩
  · have h0 : 0 ≤ s := by omega
    clear hneg
    go_enter Tryd.func11, Tryd.ntmps11
    go_wp2_with fail
    refine (p_owner nm tr A c ls (s / 8) ⟨by omega, by omega⟩ _ (hA.ext (((Ext.refl _).alloc _).alloc _))).mono ?_
    rintro e w1 ⟨rfl, hx1⟩
    have hx := (((Ext.refl w).alloc _).alloc _).trans hx1
    have hT := (((Blk.new w 34 [.string nm, .int .i64 tr, .slice A ls.length c]).alloc (.cells #[.int .i64 0, .int .i64 0] 37)).ext hx1)
    have hR := (Blk.new_at (w := w.alloc (.cells #[.string nm, .int .i64 tr, .slice A ls.length c] 34)) (g := w.heap.size + 1) (by simp) 37 [.int .i64 0, .int .i64 0]).ext hx1
    have d2 := hT.cell 2 rfl
    have c0 := hR.cell 0 rfl
    have c1 := hR.cell 1 rfl
    have z0 := hR.frozen 0
    have z1 := hR.frozen 1
    cases hi : ownerT ls (s / 8) with
    | none =>
      have he := Lib.hid (ownS_none ls s h0 hi)
      have hi := Lib.hid hi
      go_wp2
      have hF := (hR.set 0 (.int .i64 0)).set 1 (.int .i64 0)
      have e0 := hF.cell 0 rfl
      have e1 := hF.cell 1 rfl
      exact bodyPost_ret (v := .tuple #[.agg #[.int .i64 0, .int .i64 0], .int .i64 0, .bool false]) (by simp [results, Tryd.results11, go_sem, e0, e1]) rfl ⟨by rw [he.out], by repeat (first | exact hx | refine Ext.set ?_ (by dsimp only; omega) _)⟩
    | some p =>
      obtain ⟨k, m⟩ := p
      obtain ⟨hk, hm⟩ := ownerT_at _ _ _ _ hi
      have hml := ixT_lt _ _ _ hm
      have hm := Lib.hid hm
      have he := Lib.hid (ownS_some ls s h0 hk hi)
      obtain ⟨b, o, B, cb, rfl, a0, a1, _, _, a4, hB, _⟩ := (hA.ext hx).at_ hk
      have hsl := seq_le ls[k].ext
      have hbl := hB.len
      have hi := Lib.hid hi
      go_wp2
      go_region
      go_wp2
      have hF := ((hR.set 0 (.int .i64 ls[k].id)).set 1 (.int .i64 ls[k].unit)).drew
      have e0 := hF.cell 0 rfl
      have e1 := hF.cell 1 rfl
      exact bodyPost_ret (v := .tuple #[.agg #[.int .i64 ls[k].id, .int .i64 ls[k].unit], .int .i64 ((m : Int) * 8 + s % 8), .bool true]) (by simp [results, Tryd.results11, go_sem, e0, e1]) rfl ⟨by rw [he.out], by repeat (first | exact hx | refine Ext.drew ?_ | refine Ext.set ?_ (by dsimp only; omega) _)⟩

theorem r_Owner9 (nm : ByteArray) (tr : Int) (A : Option Addr) (c : Nat) (ls : List Label) (hsm : ∀ l ∈ ls, (l.ext.length : Int) ≤ 4294967296) (s : Int) (hs : I64 s) (w : World) (hA : Labels w A ls) :
    Calls Tryd.prog 25 #[.agg #[.string nm, .int .i64 tr, .slice A ls.length c], .int .i64 s] w fun e w' =>
      e = .returned (.tuple #[.agg #[.int .i64 (ownS ls s).id, .int .i64 (ownS ls s).unit], .int .i64 (ownS ls s).n, .bool (ownS ls s).is]) ∧ Ext w w' := by
  have hl := hA.len
  have hu := Tryd.underlying55
  have hu2 := Tryd.underlying34
  have hu3 := Tryd.underlying37
  obtain ⟨s1, s2⟩ := hs
  go_enter Tryd.func25, Tryd.ntmps25
  go_wp2
  go_loopg [7] ls.length (fun g i wr => ∃ k : Nat, k + g = ls.length ∧ i = .int .i64 k ∧ Hid (0 < k → 0 ≤ s) ∧ Hid (∀ j (h : j < ls.length), j < k → ixT ls[j].ext (s / 8) = none) ∧ Blk wr w.heap.size 34 [.string nm, .int .i64 tr, .slice A ls.length c] ∧ Blk wr (w.heap.size + 1) 37 [.int .i64 0, .int .i64 0] ∧ Ext w wr)
  case atStart => exact ⟨0, by omega, rfl, fun h => by omega, fun j _ h => by omega, (Blk.new w _ [_, _, _]).alloc _, Blk.new_at (by simp) _ [_, _], ((Ext.refl w).alloc _).alloc _⟩
  case round =>
    obtain ⟨k, hk, rfl, hp, hn, hT, hR, hx⟩ := hrel
    have hk := Lib.hid hk
    have d2 := hT.cell 2 rfl
    have c0 := hR.cell 0 rfl
    have c1 := hR.cell 1 rfl
    have z0 := hR.frozen 0
    have z1 := hR.frozen 1
    have hF := (hR.set 0 (.int .i64 0)).set 1 (.int .i64 0)
    have e0 := Lib.hid (hF.cell 0 rfl)
    have e1 := Lib.hid (hF.cell 1 rfl)
    rcases Nat.lt_or_ge k ls.length with hlt | hge
    · by_cases hs0 : 0 ≤ s
      · obtain ⟨b, o, B, cb, rfl, a0, a1, _, _, a4, hB, _⟩ := (hA.ext hx).at_ hlt
        have hsl := seq_le ls[k].ext
        have hbl := hsm _ (List.getElem_mem hlt)
        go_wp2_with fail
        refine (r_index B cb _ (s / 8) ⟨by omega, by omega⟩ _ hbl hB).mono ?_
        rintro e w1 ⟨rfl, hx1⟩
        have hx2 := hx.trans hx1
        have hT1 := hT.ext hx1
        have hR1 := hR.ext hx1
        clear c0 c1 z0 z1 d2
        have d2 := hT1.cell 2 rfl
        have c0 := hR1.cell 0 rfl
        have c1 := hR1.cell 1 rfl
        have z0 := hR1.frozen 0
        have z1 := hR1.frozen 1
        have b0 := hx1.cell a0
        have b1 := hx1.cell a1
        cases hi : ixT ls[k].ext (s / 8) with
        | none =>
          have hi := Lib.hid hi
          go_wp2
          go_roundg (ls.length - k - 1)
          case measure => have := hk.out; omega
          case rel => exact ⟨k + 1, by omega, by go_num, fun _ => hs0, all_snoc (P := fun l : Label => ixT l.ext (s / 8) = none) hn.out hlt hi.out, hT1, hR1, hx2⟩
        | some m =>
          have hml := ixT_lt _ _ _ hi
          have he := Lib.hid (ownS_some ls s hs0 hlt (ownerT_some _ m ls k hlt hn.out hi))
          have hi := Lib.hid hi
          go_wp2
          go_region
          go_wp2
          clear hF e0 e1
          have hF := ((hR1.set 0 (.int .i64 ls[k].id)).set 1 (.int .i64 ls[k].unit)).drew
          have e0 := hF.cell 0 rfl
          have e1 := hF.cell 1 rfl
          exact bodyPost_ret (v := .tuple #[.agg #[.int .i64 ls[k].id, .int .i64 ls[k].unit], .int .i64 ((m : Int) * 8 + s % 8), .bool true]) (by simp [results, Tryd.results25, go_sem, e0, e1]; omega) rfl ⟨by rw [he.out], by repeat (first | exact hx2 | refine Ext.drew ?_ | refine Ext.set ?_ (by dsimp only; omega) _)⟩
      · have he := Lib.hid (ownS_neg ls s (by omega))
        clear hp
        go_wp2
        have e0 := e0.out
        have e1 := e1.out
        exact bodyPost_ret (v := .tuple #[.agg #[.int .i64 0, .int .i64 0], .int .i64 0, .bool false]) (by simp [results, Tryd.results25, go_sem, e0, e1]) rfl ⟨by rw [he.out], by repeat (first | exact hx | refine Ext.set ?_ (by dsimp only; omega) _)⟩
    · have he : ownS ls s = ⟨0, 0, 0, false⟩ := by
        rcases Int.lt_or_le s 0 with h | h
        · exact ownS_neg ls s h
        · exact ownS_none ls s h (ownerT_none _ ls (fun j hj => hn.out j hj (by omega)))
      have he := Lib.hid he
      go_wp2
      have e0 := e0.out
      have e1 := e1.out
      exact bodyPost_ret (v := .tuple #[.agg #[.int .i64 0, .int .i64 0], .int .i64 0, .bool false]) (by simp [results, Tryd.results25, go_sem, e0, e1]) rfl ⟨by rw [he.out], by repeat (first | exact hx | refine Ext.set ?_ (by dsimp only; omega) _)⟩
end Go.Proofs.YtjdmgpefjehkaaaDoor
