/- How often a track occurs in a table; equality of references and of results, in the reference. -/
import Derived.Test.YtjdmgpefjehkaaaGreatDoorTableP
import Derived.Test.YtjdmgpefjehkaaaGreatDoorRef05b
namespace Go.Proofs.YtjdmgpefjehkaaaGreatDoor
open Go.RowKit
attribute [local go_sem] Instr.field asAgg
set_option maxRecDepth 100000

theorem count_take (l : List Int) (t : Int) (k : Nat) (h : k < l.length) : (l.take (k + 1)).count t = (l.take k).count t + if (l[k] == t) = true then 1 else 0 := by
  rw [List.take_succ_eq_append_getElem h, List.count_append, List.count_singleton]
set_option maxHeartbeats 1000000 in
theorem r_times (nm : ByteArray) (tr : Int) (A : Option Addr) (c : Nat) (ls : List Label) (hse : ∀ l ∈ ls, (l.ext.length : Int) ≤ 1000000) (hsm : (ls.length : Int) ≤ 1000000) (t : Int) (w : World) (hA : Labels w A ls) :
    Calls Tryz.prog 35 #[.agg #[.string nm, .int .i64 tr, .slice A ls.length c], .int .i64 t] w fun e w' => e = .returned (.int .i64 ((allT ls).count t : Nat)) ∧ Ext w w' := by
  have hu2 := Tryz.underlying24
  have hu3 := Tryz.underlying43
  go_enter Tryz.func35, Tryz.ntmps35
  go_wp2
  go_loopg [5, 6] ls.length (fun g n i wr => ∃ (k N0 : Nat), k + g = ls.length ∧ i = .int .i64 k ∧ n = .int .i64 (N0 : Nat) ∧ Hid ((allT (ls.take k)).count t = N0) ∧ (N0 : Int) ≤ 128000000000000 ∧ Blk wr w.heap.size 24 [.string nm, .int .i64 tr, .slice A ls.length c] ∧ Ext w wr)
  case atStart => exact ⟨0, 0, by omega, rfl, rfl, rfl, by decide, Blk.new w _ [_, _, _], (Ext.refl w).alloc _⟩
  case round =>
    obtain ⟨k, N0, hk, rfl, rfl, hN, hNb, hT, hx⟩ := hrel
    have hk2 := Lib.hid hk
    clear hk
    have d2 := hT.cell 2 rfl
    rcases Nat.lt_or_ge k ls.length with hlt | hge
    · obtain ⟨b, o, B, cB, rfl, a0, a1, a2, a3, a4, hR, hc⟩ := hA.at_ hlt
      have h4 := hx.cell a4
      have hq := hse _ (List.getElem_mem hlt)
      have hl1 := allT_len (ls.take k) fun l hl => hse l (List.mem_of_mem_take hl)
      have hl2 : (ls.take k).length ≤ k := List.length_take_le _ _
      have hl3 := List.count_le_length (a := t) (l := allT (ls.take k))
      have hl4 := seq_le ls[k].ext
      have hsn := Lib.hid (show (allT (ls.take (k + 1))).count t = (allT (ls.take k)).count t + (seq ls[k].ext).count t by rw [allT_snoc ls k hlt, List.count_append])
      have HS := fun w => r_seq B cB ls[k].ext w (by omega)
      have hN2 : N0 ≤ (allT (ls.take k)).length := by have := hN.out; omega
      generalize seq ls[k].ext = l at HS hl4 hsn
      go_wp2_with fail
      refine (HS _ (hR.ext hx)).mono ?_
      clear HS
      rintro e w1 ⟨D, cD, rfl, hD, hx1⟩
      have hT1 := hT.ext hx1
      have hx2 := hx.trans hx1
      go_wp2
      go_loopg [5, 8] l.length (fun g n i wr => ∃ j : Nat, j + g = l.length ∧ i = .int .i64 j ∧ n = .int .i64 ((N0 + (l.take j).count t : Nat) : Int) ∧ wr = w1)
      case atStart => exact ⟨0, by omega, rfl, by simp, rfl⟩
      case round =>
        obtain ⟨j, hj, rfl, rfl, rfl⟩ := hrel
        have hj2 := Lib.hid hj
        clear hj
        rcases Nat.lt_or_ge j l.length with hjl | hjg
        · obtain ⟨b1, o1, rfl, h1⟩ := hD.at_ hjl
          have hct := Lib.hid (count_take l t j hjl)
          have hcl := List.count_le_length (a := t) (l := l.take j)
          have hcl2 : (l.take j).length ≤ j := List.length_take_le _ _
          cases hq2 : (l[j] == t) with
          | true =>
            have hc2 : Hid ((l.take (j + 1)).count t = (l.take j).count t + 1) := by have := hct.out; rw [hq2] at this; simpa [Hid] using this
            go_wp2
            go_roundg (l.length - j - 1)
            case measure => have := hj2.out; omega
            case rel => exact ⟨j + 1, by omega, by go_num, by rw [hc2.out]; go_num, rfl⟩
          | false =>
            have hc2 : Hid ((l.take (j + 1)).count t = (l.take j).count t) := by have := hct.out; rw [hq2] at this; simpa [Hid] using this
            go_wp2
            go_roundg (l.length - j - 1)
            case measure => have := hj2.out; omega
            case rel => exact ⟨j + 1, by omega, by go_num, by rw [hc2.out], rfl⟩
        · have htk : l.take j = l := List.take_of_length_le hjg
          have hcl := List.count_le_length (a := t) (l := l)
          go_wp2
          go_roundg (ls.length - k - 1)
          case measure => have := hk2.out; omega
          case rel => exact ⟨k + 1, N0 + l.count t, by omega, by go_num, by rw [htk], by show _ = _; rw [hsn.out, hN.out], by omega, hT1, hx2⟩
    · have hkk : Hid (N0 = (allT ls).count t) := by have := hN.out; rw [List.take_of_length_le hge] at this; exact this.symm
      go_wp2
      go_ret
      exact ⟨by rw [← hkk.out]; rfl, hx⟩
end Go.Proofs.YtjdmgpefjehkaaaGreatDoor
