/- The contracts of package extent that only read: clip, Size, Index, At, Contains. -/
import Derived.Test.YtjdmgpefjehkaaaGreatDoorProg
import Derived.Test.YtjdmgpefjehkaaaGreatDoorBase
namespace Go.Proofs.YtjdmgpefjehkaaaGreatDoor
open Go.RowKit
attribute [local go_sem] Instr.field asAgg
set_option maxRecDepth 100000

theorem clip_fc (f c : Int) (hf : I64 f) (hc : I64 c) (w : World) :
    Calls Tryz.prog 50 #[.agg #[.int .i64 f, .int .i64 c]] w fun e w' => e = .returned (.agg #[.int .i64 (clip ⟨f, c⟩).f, .int .i64 (clip ⟨f, c⟩).c]) ∧ Ext w w' := by
  obtain ⟨f1, f2⟩ := hf
  obtain ⟨c1, c2⟩ := hc
  go_enter Tryz.func50, Tryz.ntmps50
  go_wp2
  all_goals
    refine bodyPost_ret (by simp [results, Tryz.results50, go_sem]; rfl) rfl ⟨?_, ?_⟩
    · refine congrArg (fun r : Run => Ending.returned (.agg #[.int .i64 r.f, .int .i64 r.c])) (?_ : (⟨_, _⟩ : Run) = clip ⟨f, c⟩)
      have m1 : (if f + c < 128 then f + c else 128) = min 128 (f + c) := by split <;> omega
      have m2 : (if 0 < f then f else 0) = max 0 f := by split <;> omega
      simp only [clip]
      repeat (first | rw [if_pos (by omega)] | rw [if_neg (by omega)])
      all_goals first | rfl | (simp only [Run.mk.injEq]; omega)
    · repeat (first | exact Ext.refl _ | refine Ext.alloc ?_ _)
theorem clip_any (r : Run) (hr : r.ok) (w : World) :
    Calls Tryz.prog 50 #[.agg #[.int .i64 r.f, .int .i64 r.c]] w fun e w' => e = .returned (.agg #[.int .i64 (clip r).f, .int .i64 (clip r).c]) ∧ Ext w w' := clip_fc r.f r.c hr.1 hr.2 w

theorem size_any (A : Option Addr) (cap : Nat) (rs : List Run) (w : World) (hA : Runs w A rs) :
    Calls Tryz.prog 21 #[.slice A rs.length cap] w fun e w' => e = .returned (.int .i64 (seq rs).length) ∧ Ext w w' := by
  have hl := hA.len
  have hu := Tryz.underlying68
  go_enter Tryz.func21, Tryz.ntmps21
  go_wp2
  go_loopg [3, 8] rs.length (fun g n i wr => ∃ k : Nat, k + g = rs.length ∧ i = .int .i64 k ∧ n = .int .i64 (seq (rs.take k)).length ∧ Ext w wr)
  case atStart => exact ⟨0, by omega, rfl, rfl, Ext.refl _⟩
  case round =>
    obtain ⟨k, hk, rfl, rfl, hx⟩ := hrel
    have hk := Lib.hid hk
    rcases Nat.lt_or_ge k rs.length with hlt | hge
    · obtain ⟨b, o, rfl, h1, h2⟩ := (hA.ext hx).at_ hlt
      have hb := clip_bd rs[k]
      have hs := seq_le (rs.take k)
      have hm : ((rs.take k).length : Int) ≤ k := by simp; omega
      go_wp2_with fail
      refine (clip_any rs[k] (hA.okAt hlt) _).mono ?_
      rintro e w1 ⟨rfl, hx1⟩
      go_wp2
      go_roundg (rs.length - k - 1)
      case measure => have := hk.out; omega
      case rel => exact ⟨k + 1, by omega, by go_num, by rw [seq_len_take rs k hlt], hx.trans (Ext.trans ((Ext.refl _).alloc _) hx1)⟩
    · go_wp2
      go_ret
      have : rs.take k = rs := List.take_of_length_le hge
      exact ⟨by rw [this]; rfl, hx⟩

theorem index_any (A : Option Addr) (cap : Nat) (rs : List Run) (t : Int) (ht : I64 t) (w : World) (hA : Runs w A rs) :
    Calls Tryz.prog 53 #[.slice A rs.length cap, .int .i64 t] w fun e w' => e = .returned (.tuple #[.int .i64 ((ixT rs t).getD 0 : Nat), .bool (ixT rs t).isSome]) ∧ Ext w w' := by
  have hl := hA.len
  have hu := Tryz.underlying68
  obtain ⟨t1, t2⟩ := ht
  go_enter Tryz.func53, Tryz.ntmps53
  go_wp2
  go_loopg [6, 11] rs.length (fun g n i wr => ∃ k : Nat, k + g = rs.length ∧ i = .int .i64 k ∧ n = .int .i64 (seq (rs.take k)).length ∧ Hid (ixT (rs.take k) t = none) ∧ Ext w wr)
  case atStart => exact ⟨0, by omega, rfl, rfl, rfl, Ext.refl _⟩
  case round =>
    obtain ⟨k, hk, rfl, rfl, hn, hx⟩ := hrel
    have hk := Lib.hid hk
    rcases Nat.lt_or_ge k rs.length with hlt | hge
    · obtain ⟨b, o, rfl, h1, h2⟩ := (hA.ext hx).at_ hlt
      obtain ⟨hb1, hb2, hb3⟩ := clip_bd rs[k]
      have hs := seq_le (rs.take k)
      have hm : ((rs.take k).length : Int) ≤ k := by simp; omega
      have ht := Lib.hid (ixT_take rs t k hlt)
      go_wp2_with fail
      refine (clip_any rs[k] (hA.okAt hlt) _).mono ?_
      rintro e w1 ⟨rfl, hx1⟩
      have hx2 := hx.trans (Ext.trans ((Ext.refl _).alloc _) hx1)
      have hB := (Blk.new wr 68 [.int .i64 rs[k].f, .int .i64 rs[k].c]).ext hx1
      have c0 := hB.cell 0 rfl
      have c1 := hB.cell 1 rfl
      have z0 := hB.frozen 0
      have z1 := hB.frozen 1
      go_wp2
      · go_ret2
        rename_i q1 q2
        have hh : has rs[k] t = true := by simp [has, q1, q2]
        have he := ht.out
        rw [hn.out, if_pos hh] at he
        rw [ixT_prefix rs t _ he]
        refine ⟨congrArg Ending.returned ?_, by repeat (first | exact hx2 | refine Ext.set ?_ hx.le _)⟩
        simp; omega
      all_goals
        rename_i q2
        have hh : has rs[k] t = false := by simp [has]; omega
        have he := ht.out
        rw [hn.out, hh] at he
        go_roundg (rs.length - k - 1)
        case measure => have := hk.out; omega
        case rel => exact ⟨k + 1, by omega, by go_num, by rw [seq_len_take rs k hlt], he, by repeat (first | exact hx2 | refine Ext.set ?_ hx.le _)⟩
    · go_wp2
      go_ret2
      have : rs.take k = rs := List.take_of_length_le hge
      have h := hn.out
      rw [this] at h
      exact ⟨by rw [h]; rfl, hx⟩

theorem at_any (A : Option Addr) (cap : Nat) (rs : List Run) (i : Int) (hi : I64 i) (w : World) (hA : Runs w A rs) :
    Calls Tryz.prog 33 #[.slice A rs.length cap, .int .i64 i] w fun e w' => e = .returned (.tuple #[.int .i64 ((atT rs i).getD 0), .bool (atT rs i).isSome]) ∧ Ext w w' := by
  have hl := hA.len
  have hu := Tryz.underlying68
  obtain ⟨i1, i2⟩ := hi
  by_cases hneg : i < 0
  · have hz := Lib.hid (show atT rs i = none by unfold atT; rw [if_neg (by omega)])
    go_enter Tryz.func33, Tryz.ntmps33
    go_wp2
    go_ret2
    exact ⟨by rw [hz.out]; rfl, Ext.refl _⟩
  · have hi0 : 0 ≤ i := by omega
    clear hneg
    go_enter Tryz.func33, Tryz.ntmps33
    go_wp2
    go_loopg [1, 12] rs.length (fun g n j wr => ∃ k : Nat, k + g = rs.length ∧ j = .int .i64 k ∧ n = .int .i64 (i - (seq (rs.take k)).length) ∧ ((seq (rs.take k)).length : Int) ≤ i ∧ Ext w wr)
    case atStart => exact ⟨0, by omega, rfl, by simp [seq], by simp [seq]; omega, Ext.refl _⟩
    case round =>
      obtain ⟨k, hk, rfl, rfl, hn, hx⟩ := hrel
      have hk := Lib.hid hk
      rcases Nat.lt_or_ge k rs.length with hlt | hge
      · obtain ⟨b, o, rfl, h1, h2⟩ := (hA.ext hx).at_ hlt
        obtain ⟨hb1, hb2, hb3⟩ := clip_bd rs[k]
        have hs := seq_le (rs.take k)
        have hm : ((rs.take k).length : Int) ≤ k := by simp; omega
        have ht := Lib.hid (seq_len_take rs k hlt)
        go_wp2_with fail
        refine (clip_any rs[k] (hA.okAt hlt) _).mono ?_
        rintro e w1 ⟨rfl, hx1⟩
        have hx2 := hx.trans (Ext.trans ((Ext.refl _).alloc _) hx1)
        have hB := (Blk.new wr 68 [.int .i64 rs[k].f, .int .i64 rs[k].c]).ext hx1
        have c0 := hB.cell 0 rfl
        have c1 := hB.cell 1 rfl
        have z0 := hB.frozen 0
        have z1 := hB.frozen 1
        go_wp2
        · go_ret2
          rename_i q1
          have he := atT_in rs k hlt (i - (seq (rs.take k)).length) (by omega) q1
          rw [Int.sub_add_cancel] at he
          rw [he]
          exact ⟨rfl, by repeat (first | exact hx2 | refine Ext.set ?_ hx.le _)⟩
        · go_roundg (rs.length - k - 1)
          case measure => have := hk.out; omega
          case rel => exact ⟨k + 1, by omega, by go_num, by rw [ht.out]; go_num, by rw [ht.out]; omega, by repeat (first | exact hx2 | refine Ext.set ?_ hx.le _)⟩
      · go_wp2
        go_ret2
        have : rs.take k = rs := List.take_of_length_le hge
        rw [this] at hn
        rw [atT_none rs i hn]
        exact ⟨rfl, hx⟩

theorem contains_any (A : Option Addr) (cap : Nat) (rs : List Run) (t : Int) (ht : I64 t) (w : World) (hA : Runs w A rs) :
    Calls Tryz.prog 25 #[.slice A rs.length cap, .int .i64 t] w fun e w' => e = .returned (.bool (ixT rs t).isSome) ∧ Ext w w' := by
  go_enter Tryz.func25, Tryz.ntmps25
  go_wp2_with fail
  refine (index_any A cap rs t ht _ hA).mono ?_
  rintro e w1 ⟨rfl, hx1⟩
  go_wp2
  go_ret
  exact ⟨rfl, hx1⟩
end Go.Proofs.YtjdmgpefjehkaaaGreatDoor
