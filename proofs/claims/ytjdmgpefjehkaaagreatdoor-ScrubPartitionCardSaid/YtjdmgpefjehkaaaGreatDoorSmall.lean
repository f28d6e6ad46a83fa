/- Small contracts: how many tracks a table of contents has, in the program and in the reference. -/
import Derived.Test.YtjdmgpefjehkaaaGreatDoorProg
import Derived.Test.YtjdmgpefjehkaaaGreatDoorBase
namespace Go.Proofs.YtjdmgpefjehkaaaGreatDoor
open Go.RowKit
attribute [local go_sem] Instr.field asAgg
set_option maxRecDepth 100000

def okT (n : Int) : Bool := decide (4 ≤ n) && decide (n ≤ 128)
def tt (n : Int) : Int := if okT n = true then (n + 3) / 4 else 0
theorem okT_yes {n : Int} (h : okT n = true) : 4 ≤ n ∧ n ≤ 128 := by simpa [okT] using h
theorem okT_no {n : Int} (h : okT n = false) : n < 4 ∨ 128 < n := by
  simp [okT] at h
  omega
theorem tt_bd (n : Int) : 0 ≤ tt n ∧ tt n ≤ 32 := by
  unfold tt
  cases h : okT n
  · simp
  · have := okT_yes h
    simp
    omega

theorem p_tracksOK (n : Int) (w : World) : Calls Tryz.prog 59 #[.int .i64 n] w fun e w' => e = .returned (.bool (okT n)) ∧ w = w' := by
  go_enter Tryz.func59, Tryz.ntmps59
  go_wp2
  all_goals (go_ret; exact ⟨by simp [okT]; try omega, rfl⟩)
theorem p_tt (n : Int) (w : World) : Calls Tryz.prog 30 #[.int .i64 n] w fun e w' => e = .returned (.int .i64 (tt n)) ∧ w = w' := by
  cases h : okT n with
  | false =>
    have ht := Lib.hid (show tt n = 0 by simp [tt, h])
    have hc := fun w => h ▸ p_tracksOK n w
    clear h
    go_enter Tryz.func30, Tryz.ntmps30
    go_wp2_with (go_at_call 59; refine (hc _).mono ?_; rintro e w' ⟨rfl, rfl⟩)
    go_ret
    exact ⟨by rw [ht.out]; rfl, rfl⟩
  | true =>
    have ht := Lib.hid (show tt n = (n + 3) / 4 by simp [tt, h])
    have hb := okT_yes h
    have hc := fun w => h ▸ p_tracksOK n w
    clear h
    obtain ⟨h1, h2⟩ := hb
    go_enter Tryz.func30, Tryz.ntmps30
    go_wp2_with (go_at_call 59; refine (hc _).mono ?_; rintro e w' ⟨rfl, rfl⟩)
    go_ret
    exact ⟨by rw [ht.out]; rfl, rfl⟩
theorem r_valid (n : Int) (w : World) : Calls Tryz.prog 52 #[.int .i64 n] w fun e w' => e = .returned (.bool (okT n)) ∧ w = w' := by
  go_enter Tryz.func52, Tryz.ntmps52
  go_wp2
  all_goals (go_ret; exact ⟨by simp [okT]; try omega, rfl⟩)
theorem r_tt (n : Int) (w : World) : Calls Tryz.prog 23 #[.int .i64 n] w fun e w' => e = .returned (.int .i64 (tt n)) ∧ w = w' := by
  cases h : okT n with
  | false =>
    have ht := Lib.hid (show tt n = 0 by simp [tt, h])
    have hc := fun w => h ▸ r_valid n w
    clear h
    go_enter Tryz.func23, Tryz.ntmps23
    go_wp2_with (go_at_call 52; refine (hc _).mono ?_; rintro e w' ⟨rfl, rfl⟩)
    go_ret
    exact ⟨by rw [ht.out]; rfl, rfl⟩
  | true =>
    have ht := Lib.hid (show tt n = (n + 3) / 4 by simp [tt, h])
    have hb := okT_yes h
    have hc := fun w => h ▸ r_valid n w
    clear h
    obtain ⟨h1, h2⟩ := hb
    go_enter Tryz.func23, Tryz.ntmps23
    go_wp2_with (go_at_call 52; refine (hc _).mono ?_; rintro e w' ⟨rfl, rfl⟩)
    go_ret
    exact ⟨by rw [ht.out]; rfl, rfl⟩
theorem r_slots (n : Int) (w : World) : Calls Tryz.prog 83 #[.int .i64 n] w fun e w' => e = .returned (.int .i64 (max 0 (tt n - 1))) ∧ w = w' := by
  have hb := tt_bd n
  go_enter Tryz.func83, Tryz.ntmps83
  go_wp2_with (go_at_call 23; refine (r_tt n _).mono ?_; rintro e w' ⟨rfl, rfl⟩)
  all_goals (go_ret; exact ⟨congrArg (fun x : Int => Ending.returned (.int .i64 x)) (by omega), rfl⟩)

/-- How many tracks a table has. -/
def trk (n : Int) : Int := if okT n = true then n else 0
def tabV (nm : ByteArray) (t : Int) (A : Option Addr) (n c : Nat) : Value := .agg #[.string nm, .int .i64 t, .slice A n c]
theorem p_tracks (nm : ByteArray) (t : Int) (A : Option Addr) (n c : Nat) (w : World) : Calls Tryz.prog 31 #[.agg #[.string nm, .int .i64 t, .slice A n c]] w fun e w' => e = .returned (.int .i64 (trk t)) ∧ Ext w w' := by
  have hc := p_tt t
  unfold tt at hc
  unfold trk
  cases h : okT t with
  | false =>
    simp only [h, Bool.false_eq_true, if_false] at hc ⊢
    clear h
    go_enter Tryz.func31, Tryz.ntmps31
    go_wp2_with (go_at_call 30; refine (hc _).mono ?_; rintro e w' ⟨rfl, rfl⟩)
    go_ret
    exact ⟨rfl, (Ext.refl w).alloc _⟩
  | true =>
    obtain ⟨h1, h2⟩ := okT_yes h
    simp only [h, if_true] at hc ⊢
    clear h
    go_enter Tryz.func31, Tryz.ntmps31
    go_wp2_with (go_at_call 30; refine (hc _).mono ?_; rintro e w' ⟨rfl, rfl⟩)
    go_ret
    exact ⟨rfl, (Ext.refl w).alloc _⟩
theorem r_tracks (nm : ByteArray) (t : Int) (A : Option Addr) (n c : Nat) (w : World) : Calls Tryz.prog 34 #[.agg #[.string nm, .int .i64 t, .slice A n c]] w fun e w' => e = .returned (.int .i64 (trk t)) ∧ Ext w w' := by
  have hc := r_tt t
  unfold tt at hc
  unfold trk
  cases h : okT t with
  | false =>
    simp only [h, Bool.false_eq_true, if_false] at hc ⊢
    clear h
    go_enter Tryz.func34, Tryz.ntmps34
    go_wp2_with (go_at_call 23; refine (hc _).mono ?_; rintro e w' ⟨rfl, rfl⟩)
    go_ret
    exact ⟨rfl, (Ext.refl w).alloc _⟩
  | true =>
    obtain ⟨h1, h2⟩ := okT_yes h
    simp only [h, if_true] at hc ⊢
    clear h
    go_enter Tryz.func34, Tryz.ntmps34
    go_wp2_with (go_at_call 23; refine (hc _).mono ?_; rintro e w' ⟨rfl, rfl⟩)
    go_ret
    exact ⟨rfl, (Ext.refl w).alloc _⟩
end Go.Proofs.YtjdmgpefjehkaaaGreatDoor
