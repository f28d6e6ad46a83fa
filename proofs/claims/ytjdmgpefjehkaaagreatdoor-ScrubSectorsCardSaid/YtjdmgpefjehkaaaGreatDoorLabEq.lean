/- Equality of labels, and the zero label, in the reference. -/
import Derived.Test.YtjdmgpefjehkaaaGreatDoorRef05
import Derived.Test.YtjdmgpefjehkaaaGreatDoorTab
import Derived.Deep.QuietTactic
import Derived.BigQuiet
namespace Go.Proofs.YtjdmgpefjehkaaaGreatDoor
open Go.RowKit
attribute [local go_sem] Instr.field asAgg
set_option maxRecDepth 100000

def eqL (a b : Label) : Bool := a.id == b.id && (a.unit == b.unit && (a.name.toList == b.name.toList && (a.note.toList == b.note.toList && decide (a.ext = b.ext))))
def zeroL : Label := ⟨0, 0, ⟨#[]⟩, ⟨#[]⟩, []⟩
def emptyL (l : Label) : Bool := eqL l zeroL

theorem r_Equal (a b : Label) (A B : Option Addr) (ca cb : Nat) (w : World) (hA : Runs w A a.ext) (hB : Runs w B b.ext) :
    Calls Tryz.prog 89 #[.agg #[.int .i64 a.id, .int .i64 a.unit, .string a.name, .string a.note, .slice A a.ext.length ca], .agg #[.int .i64 b.id, .int .i64 b.unit, .string b.name, .string b.note, .slice B b.ext.length cb]] w fun e w' =>
      e = .returned (.bool (eqL a b)) ∧ Ext w w' := by
  have hu := Tryz.underlying43
  have hx := ((Ext.refl w).alloc (.cells #[.int .i64 a.id, .int .i64 a.unit, .string a.name, .string a.note, .slice A a.ext.length ca] 43)).alloc (.cells #[.int .i64 b.id, .int .i64 b.unit, .string b.name, .string b.note, .slice B b.ext.length cb] 43)
  obtain ⟨i1, u1, n1, t1, x1⟩ := a
  obtain ⟨i2, u2, n2, t2, x2⟩ := b
  dsimp only at hA hB hx ⊢
  have HC := fun w => r_same A B ca cb x1 x2 w
  unfold eqL
  dsimp only
  generalize decide (x1 = x2) = d at HC ⊢
  cases h1 : (i1 == i2)
  · go_enter Tryz.func89, Tryz.ntmps89
    go_wp2
    go_ret
    exact ⟨rfl, hx⟩
  cases h2 : (u1 == u2)
  · go_enter Tryz.func89, Tryz.ntmps89
    go_wp2
    go_ret
    exact ⟨rfl, hx⟩
  cases h3 : (n1.toList == n2.toList)
  · go_enter Tryz.func89, Tryz.ntmps89
    go_wp2
    go_ret
    exact ⟨rfl, hx⟩
  cases h4 : (t1.toList == t2.toList)
  · go_enter Tryz.func89, Tryz.ntmps89
    go_wp2
    go_ret
    exact ⟨rfl, hx⟩
  · go_enter Tryz.func89, Tryz.ntmps89
    go_wp2_with fail
    refine (HC _ (hA.ext hx) (hB.ext hx)).mono ?_
    clear HC
    rintro e w1 ⟨rfl, hx1⟩
    go_wp2
    go_ret
    exact ⟨rfl, hx.trans hx1⟩

theorem Runs.nil (w : World) (A : Option Addr) : Runs w A [] := ⟨Sl.nil w A, by simp, by simp⟩
theorem r_empty (a : Label) (A : Option Addr) (ca : Nat) (w : World) (hA : Runs w A a.ext) :
    Calls Tryz.prog 60 #[.agg #[.int .i64 a.id, .int .i64 a.unit, .string a.name, .string a.note, .slice A a.ext.length ca]] w fun e w' =>
      e = .returned (.bool (emptyL a)) ∧ Ext w w' := by
  have hx := (Ext.refl w).alloc (.cells #[.int .i64 a.id, .int .i64 a.unit, .string a.name, .string a.note, .slice A a.ext.length ca] 43)
  go_enter Tryz.func60, Tryz.ntmps60
  go_wp2_with fail
  refine (r_Equal a zeroL A none ca 0 _ (hA.ext hx) (Runs.nil _ _)).mono ?_
  rintro e w1 ⟨rfl, hx1⟩
  go_wp2
  go_ret
  exact ⟨rfl, hx.trans hx1⟩

theorem p_sleq (A B : Option Addr) (ca cb : Nat) (a b : List Run) (w : World) (hA : Runs w A a) (hB : Runs w B b) :
    Calls Tryz.prog 70 #[.slice A a.length ca, .slice B b.length cb] w fun e w' => e = .returned (.bool (decide (a = b))) ∧ Ext w w' := by
  have hla := hA.len
  have hlb := hB.len
  have hq := neq2
  by_cases hlen : a.length = b.length
  · have l1 : a.length ≤ b.length := by omega
    have l2 : b.length ≤ a.length := by omega
    clear hlen
    go_enter Tryz.func70, Tryz.ntmps70
    go_wp2
    go_loopg [13] a.length (fun g i wr => ∃ k : Nat, k + g = a.length ∧ i = .int .i64 k ∧ Hid (a.take k = b.take k) ∧ Ext w wr)
    case atStart => exact ⟨0, by omega, rfl, rfl, Ext.refl _⟩
    case round =>
      obtain ⟨k, hk, rfl, hn, hx⟩ := hrel
      have hk := Lib.hid hk
      rcases Nat.lt_or_ge k a.length with hlt | hge
      · obtain ⟨b1, o1, rfl, h1, h1'⟩ := (hA.ext hx).at_ hlt
        obtain ⟨b2, o2, rfl, h2, h2'⟩ := (hB.ext hx).at_ (show k < b.length by omega)
        go_wp2_with fail
        go_quiet (fail)
        go_wp2
        · go_ret
          rename_i q
          have hd : a[k] ≠ b[k] := by
            intro h
            rw [h] at q
            simp at q
          exact ⟨by have : a ≠ b := (fun h => hd (by subst h; rfl)); simp [this], hx.drewN _⟩
        · rename_i q
          have hd : a[k] = b[k] := by
            cases h1 : a[k]; cases h2 : b[k]
            rw [h1, h2] at q
            simpa using q
          go_roundg (a.length - k - 1)
          case measure => have := hk.out; omega
          case rel => exact ⟨k + 1, by omega, by go_num, take_snoc hn.out hlt _ hd, hx.drewN _⟩
      · go_wp2
        go_ret
        have h := hn.out
        rw [List.take_of_length_le hge, List.take_of_length_le (by omega)] at h
        exact ⟨by rw [h]; simp, hx⟩
  · have hlen := Lib.hid hlen
    rcases Nat.lt_or_gt_of_ne hlen.out with l1 | l1
    all_goals
      go_enter Tryz.func70, Tryz.ntmps70
      go_wp2
      go_ret
      exact ⟨by have : a ≠ b := fun h => hlen.out (by rw [h]); simp [this], Ext.refl _⟩

theorem p_Equal (a b : Label) (A B : Option Addr) (ca cb : Nat) (w : World) (hA : Runs w A a.ext) (hB : Runs w B b.ext) :
    Calls Tryz.prog 64 #[.agg #[.int .i64 a.id, .int .i64 a.unit, .string a.name, .string a.note, .slice A a.ext.length ca], .agg #[.int .i64 b.id, .int .i64 b.unit, .string b.name, .string b.note, .slice B b.ext.length cb]] w fun e w' =>
      e = .returned (.bool (eqL a b)) ∧ Ext w w' := by
  have hu := Tryz.underlying43
  have hx := ((Ext.refl w).alloc (.cells #[.int .i64 a.id, .int .i64 a.unit, .string a.name, .string a.note, .slice A a.ext.length ca] 43)).alloc (.cells #[.int .i64 b.id, .int .i64 b.unit, .string b.name, .string b.note, .slice B b.ext.length cb] 43)
  obtain ⟨i1, u1, n1, t1, x1⟩ := a
  obtain ⟨i2, u2, n2, t2, x2⟩ := b
  dsimp only at hA hB hx ⊢
  have HC := fun w => p_sleq A B ca cb x1 x2 w
  unfold eqL
  dsimp only
  generalize decide (x1 = x2) = d at HC ⊢
  cases h1 : (i1 == i2)
  · go_enter Tryz.func64, Tryz.ntmps64
    go_wp2
    go_ret
    exact ⟨rfl, hx⟩
  cases h2 : (u1 == u2)
  · go_enter Tryz.func64, Tryz.ntmps64
    go_wp2
    go_ret
    exact ⟨rfl, hx⟩
  cases h3 : (n1.toList == n2.toList)
  · go_enter Tryz.func64, Tryz.ntmps64
    go_wp2
    go_ret
    exact ⟨rfl, hx⟩
  cases h4 : (t1.toList == t2.toList)
  · go_enter Tryz.func64, Tryz.ntmps64
    go_wp2
    go_ret
    exact ⟨rfl, hx⟩
  · go_enter Tryz.func64, Tryz.ntmps64
    go_wp2_with fail
    refine (HC _ (hA.ext hx) (hB.ext hx)).mono ?_
    clear HC
    rintro e w1 ⟨rfl, hx1⟩
    go_wp2
    go_ret
    exact ⟨rfl, hx.trans hx1⟩

theorem p_empty (a : Label) (A : Option Addr) (ca : Nat) (w : World) (hA : Runs w A a.ext) :
    Calls Tryz.prog 41 #[.agg #[.int .i64 a.id, .int .i64 a.unit, .string a.name, .string a.note, .slice A a.ext.length ca]] w fun e w' =>
      e = .returned (.bool (emptyL a)) ∧ Ext w w' := by
  have hx := (Ext.refl w).alloc (.cells #[.int .i64 a.id, .int .i64 a.unit, .string a.name, .string a.note, .slice A a.ext.length ca] 43)
  go_enter Tryz.func41, Tryz.ntmps41
  go_wp2_with fail
  refine (p_Equal a zeroL A none ca 0 _ (hA.ext hx) (Runs.nil _ _)).mono ?_
  rintro e w1 ⟨rfl, hx1⟩
  go_wp2
  go_ret
  exact ⟨rfl, hx.trans hx1⟩


theorem beq_toList_zero (s : ByteArray) : (s.toList == (⟨#[]⟩ : ByteArray).toList) = true ↔ s = ⟨#[]⟩ := by
  rw [beq_iff_eq, ByteArray.toList_eq, ByteArray.toList_eq]
  obtain ⟨⟨x⟩⟩ := s
  simp
theorem emptyL_iff (l : Label) : emptyL l = true ↔ l = zeroL := by
  unfold emptyL eqL
  rw [Bool.and_eq_true, Bool.and_eq_true, Bool.and_eq_true, Bool.and_eq_true]
  obtain ⟨i, u, n, t, x⟩ := l
  dsimp only [zeroL]
  rw [beq_toList_zero, beq_toList_zero]
  simp
  intros
  exact decide_eq_true_iff
end Go.Proofs.YtjdmgpefjehkaaaGreatDoor
