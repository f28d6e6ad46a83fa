/- Equality of lists of references, and of results without damaged sectors, in the reference. -/
import Derived.Test.YtjdmgpefjehkaaaGreatDoorTimes
import Derived.Test.YtjdmgpefjehkaaaGreatDoorRLines
import Derived.Deep.QuietTactic
import Derived.BigQuiet
namespace Go.Proofs.YtjdmgpefjehkaaaGreatDoor
open Go.RowKit
attribute [local go_sem] Instr.field asAgg
set_option maxRecDepth 100000

theorem r_sameRefs (A B : Option Addr) (ca cb : Nat) (a b : List Ref) (w : World) (hA : Refs w A a) (hB : Refs w B b) :
    Calls Tryz.prog 29 #[.slice A a.length ca, .slice B b.length cb] w fun e w' => e = .returned (.bool (decide (a = b))) ∧ Ext w w' := by
  have hla := hA.len
  have hlb := hB.len
  have hq := neqR
  by_cases hlen : a.length = b.length
  · have l1 : a.length ≤ b.length := by omega
    have l2 : b.length ≤ a.length := by omega
    clear hlen
    go_enter Tryz.func29, Tryz.ntmps29
    go_wp2
    go_loopg [5] a.length (fun g i wr => ∃ k : Nat, k + g = a.length ∧ i = .int .i64 k ∧ Hid (a.take k = b.take k) ∧ Ext w wr)
    case atStart => exact ⟨0, by omega, rfl, rfl, Ext.refl _⟩
    case round =>
      obtain ⟨k, hk, rfl, hn, hx⟩ := hrel
      have hk := Lib.hid hk
      rcases Nat.lt_or_ge k a.length with hlt | hge
      · obtain ⟨b1, o1, rfl, h1, h1'⟩ := (hA.ext hx).at_ hlt
        obtain ⟨b2, o2, rfl, h2, h2'⟩ := (hB.ext hx).at_ (show k < b.length by omega)
        go_wp2_with fail
        go_quiet (fail)
        go_wp2
        · go_ret
          rename_i q
          have hd : a[k] ≠ b[k] := by
            intro h
            rw [h] at q
            simp at q
          exact ⟨by have : a ≠ b := (fun h => hd (by subst h; rfl)); simp [this], hx.drewN _⟩
        · rename_i q
          have hd : a[k] = b[k] := by
            cases h1 : a[k]; cases h2 : b[k]
            rw [h1, h2] at q
            simpa using q
          go_roundg (a.length - k - 1)
          case measure => have := hk.out; omega
          case rel => exact ⟨k + 1, by omega, by go_num, take_snoc hn.out hlt _ hd, hx.drewN _⟩
      · go_wp2
        go_ret
        have h := hn.out
        rw [List.take_of_length_le hge, List.take_of_length_le (by omega)] at h
        exact ⟨by rw [h]; simp, hx⟩
  · have hlen := Lib.hid hlen
    rcases Nat.lt_or_gt_of_ne hlen.out with l1 | l1
    all_goals
      go_enter Tryz.func29, Tryz.ntmps29
      go_wp2
      go_ret
      exact ⟨by have : a ≠ b := fun h => hlen.out (by rw [h]); simp [this], Ext.refl _⟩
/-- Of one result twice, without damaged sectors: they are equal. -/
theorem r_same15 (x : Scrub) (A2 A3 B2 B3 : Option Addr) (c2 c3 d2 d3 : Nat) (w : World) (hA : ScrubOk w x A2 A3 none) (hB : ScrubOk w x B2 B3 none) :
    Calls Tryz.prog 9 #[.agg #[.int .i64 x.free, .int .i64 x.used, .slice A2 x.tent.length c2, .slice A3 x.shared.length c3, .slice none 0 0], .agg #[.int .i64 x.free, .int .i64 x.used, .slice B2 x.tent.length d2, .slice B3 x.shared.length d3, .slice none 0 0]] w fun e w' =>
      e = .returned (.bool true) ∧ Ext w w' := by
  have hu := Tryz.underlying29
  have hx := ((Ext.refl w).alloc (.cells #[.int .i64 x.free, .int .i64 x.used, .slice A2 x.tent.length c2, .slice A3 x.shared.length c3, .slice none 0 0] 29)).alloc (.cells #[.int .i64 x.free, .int .i64 x.used, .slice B2 x.tent.length d2, .slice B3 x.shared.length d3, .slice none 0 0] 29)
  have hP := (Blk.new w 29 [.int .i64 x.free, .int .i64 x.used, .slice A2 x.tent.length c2, .slice A3 x.shared.length c3, .slice none 0 0]).alloc (.cells #[.int .i64 x.free, .int .i64 x.used, .slice B2 x.tent.length d2, .slice B3 x.shared.length d3, .slice none 0 0] 29)
  have hQ := Blk.new_at (g := w.heap.size + 1) (w := w.alloc (.cells #[.int .i64 x.free, .int .i64 x.used, .slice A2 x.tent.length c2, .slice A3 x.shared.length c3, .slice none 0 0] 29)) (by simp) 29 [.int .i64 x.free, .int .i64 x.used, .slice B2 x.tent.length d2, .slice B3 x.shared.length d3, .slice none 0 0]
  have HR := fun w h1 h2 => r_sameRefs A2 B2 c2 d2 x.tent x.tent w h1 h2
  have HI := fun w h1 h2 => r_ints A3 B3 c3 d3 x.shared x.shared w h1 h2
  rw [decide_eq_true rfl] at HR HI
  go_enter Tryz.func9, Tryz.ntmps9
  go_wp2
  refine wp_loop_rounds 1 ?_
  rw [rounds_succ]
  go_wp2_with fail
  refine (HR _ (hA.tent.ext hx) (hB.tent.ext hx)).mono ?_
  rintro e w1 ⟨rfl, hx1⟩
  have hP1 := hP.ext hx1
  have hQ1 := hQ.ext hx1
  have p3 := hP1.cell 3 rfl
  have q3 := hQ1.cell 3 rfl
  go_wp2_with fail
  refine (HI _ (hA.shared.ext (hx.trans hx1)) (hB.shared.ext (hx.trans hx1))).mono ?_
  rintro e w2 ⟨rfl, hx2⟩
  go_wp2
  go_ret
  exact ⟨rfl, (hx.trans hx1).trans hx2⟩
end Go.Proofs.YtjdmgpefjehkaaaGreatDoor
