/- dasdref08.Free, put and Create at the example's empty table; the example. -/
import Derived.Test.YtjdmgpefjehkaaaGreatDoorExValid
import Derived.Test.YtjdmgpefjehkaaaGreatDoorPut
import Derived.Deep.RegionHeld3
namespace Go.Proofs.YtjdmgpefjehkaaaGreatDoor
open Go.RowKit
attribute [local go_sem] Instr.field asAgg
set_option maxRecDepth 100000

/-! ### one run is enough -/
theorem r_Best1 (A : Option Addr) (ca : Nat) (a : List Run) (n : Int) (r : Run) (hn1 : 1 ≤ n) (hn : n ≤ r.c) (hr : r.ok) (w : World) (hA : Runs w A a) (h1 : (norm fun t => (ixT a t).isSome) = [r]) :
    Calls Tryz.prog 108 #[.slice A a.length ca, .int .i64 n] w fun e w' => e = .returned (.tuple #[.agg #[.int .i64 r.f, .int .i64 n], .bool true]) ∧ Ext w w' := by
  have hu := Tryz.underlying68
  have HN := fun w => r_Normal A ca a w
  rw [h1] at HN
  clear h1
  obtain ⟨⟨f1, f2⟩, c1, c2⟩ := hr
  go_enter Tryz.func108, Tryz.ntmps108
  go_wp2_with fail
  refine (HN _ (hA.ext ((Ext.refl _).alloc _))).mono ?_
  rintro e w1 ⟨v, rfl, hv, hx1⟩
  obtain ⟨C, cc, rfl, hcc, hC⟩ := hv.runs (fun q hq => by obtain rfl := List.mem_singleton.1 hq; exact ⟨⟨f1, f2⟩, c1, c2⟩) (by simp)
  obtain ⟨b, o, rfl, b0, b1⟩ := hC.at_ (i := 0) (by simp)
  have b0 : w1.cell? ⟨b, o, none⟩ = some (.int .i64 r.f) := by simpa using b0
  have b1 : w1.cell? ⟨b, o + 1, none⟩ = some (.int .i64 r.c) := by simpa using b1
  have hR := (Blk.new w 68 [.int .i64 0, .int .i64 0]).ext hx1
  have hx := ((Ext.refl w).alloc _).trans hx1
  have hrl := hR.lt
  have q0 : ((0 : Int) == 0) = true := rfl
  have q1 : (r.c == 0) = false := by simp; omega
  have hbl := World.block_lt_of_cell? w1 _ b0
  have c0 := hR.cell 0 rfl
  have c1' := hR.cell 1 rfl
  have z0 := hR.frozen 0
  have z1 := hR.frozen 1
  go_wp2
  refine wp_loop_rounds 2 ?_
  rw [rounds_succ]
  go_wp2
  go_quiet (fail)
  go_wp2
  rw [rounds_succ]
  go_wp2
  have hF := ((((((hR.alloc (.cells #[.int .i64 0, .int .i64 0] 68)).drewN nq).far (p := ⟨w1.heap.size, 0, none⟩) (by dsimp only; omega) (.int .i64 r.f)).far (p := ⟨w1.heap.size, 1, none⟩) (by dsimp only; omega) (.int .i64 r.c)).set 0 (.int .i64 r.f)).set 1 (.int .i64 n))
  have hle := hx.le
  have hEx := ((((((hx.alloc (.cells #[.int .i64 0, .int .i64 0] 68)).drewN nq).set (p := ⟨w1.heap.size, 0, none⟩) hle (.int .i64 r.f)).set (p := ⟨w1.heap.size, 1, none⟩) hle (.int .i64 r.c)).set (p := ⟨w.heap.size, 0, none⟩) (Nat.le_refl _) (.int .i64 r.f)).set (p := ⟨w.heap.size, 1, none⟩) (Nat.le_refl _) (.int .i64 n))
  have e0 := hF.cell 0 rfl
  have e1 := hF.cell 1 rfl
  exact bodyPost_ret (v := .tuple #[.agg #[.int .i64 r.f, .int .i64 n], .bool true]) (by simp [results, Tryz.results108, go_sem, e0, e1]) rfl ⟨rfl, hEx⟩

theorem own_base {w0 w1 w : World} {v : Value} {rs : List Run} (h : OwnRuns w1 w v rs) (hx : Ext w0 w1) : OwnRuns w0 w v rs :=
  ⟨h.1, h.2.imp id fun ⟨g, cap, cur, h1, h2, h3⟩ => ⟨g, cap, cur, h1, Nat.le_trans hx.le h2, h3⟩⟩
theorem r_Alloc1 (A : Option Addr) (ca : Nat) (a : List Run) (n most : Int) (r : Run) (hn1 : 1 ≤ n) (hm1 : 1 ≤ most) (hn : n ≤ r.c) (hr : r.ok) (w : World) (hA : Runs w A a) (h1 : (norm fun t => (ixT a t).isSome) = [r]) :
    Calls Tryz.prog 85 #[.slice A a.length ca, .int .i64 n, .int .i64 most] w fun e w' => ∃ g, e = .returned (.tuple #[.slice (some ⟨g, 0, none⟩) 1 1, .int .i64 0]) ∧ Blk w' g 68 [.int .i64 r.f, .int .i64 n] ∧ w.heap.size ≤ g ∧ Ext w w' := by
  have hu := Tryz.underlying68
  have HB := fun w h => r_Best1 A ca a n r hn1 hn hr w h h1
  clear h1
  go_enter Tryz.func85, Tryz.ntmps85
  go_wp2_with fail
  refine (HB _ hA).mono ?_
  rintro e w1 ⟨rfl, hx⟩
  go_wp2
  go_ret2
  exact ⟨_, rfl, Blk.new_at (by simp) _ [_, _], by have := hx.le; omega, (hx.alloc _).alloc _⟩

/-! ### Free at the example's table -/
def free16 : List Run := [⟨4, 12⟩]
theorem freeS16 : freeS 4 16 [] = free16 := by decide
theorem norm_free16 : (norm fun t => (ixT free16 t).isSome) = [⟨4, 12⟩] := by decide
theorem r_Free0 (A : Option Addr) (c : Nat) (w : World) (hA : Labels w A (List.replicate 3 zeroL)) :
    Calls Tryz.prog 86 #[.agg #[.string ⟨#[86]⟩, .int .i64 16, .slice A 3 c]] w fun e w' => ∃ B cb, e = .returned (.slice B 1 cb) ∧ Runs w' B free16 ∧ Ext w w' := by
  have hu2 := Tryz.underlying24
  have HF := fun B cb w => r_Free6 4 16 B cb [] w (Runs.nil w B)
  rw [freeS16] at HF
  go_enter Tryz.func86, Tryz.ntmps86
  go_wp2_with fail
  refine (r_Valid0 A c _ (hA.ext ((Ext.refl _).alloc _))).mono ?_
  rintro e w1 ⟨rfl, hx1⟩
  have hT := (Blk.new w 24 [.string ⟨#[86]⟩, .int .i64 16, .slice A 3 c]).ext hx1
  have hx := ((Ext.refl w).alloc _).trans hx1
  have d0 := hT.cell 0 rfl
  have d1 := hT.cell 1 rfl
  have d2 := hT.cell 2 rfl
  go_wp2_with fail
  have hx := hx.drew
  go_region_held3 (fun w' => w'.cell? ⟨w.heap.size, 0, none⟩ = some (.string ⟨#[86]⟩) ∧ w'.cell? ⟨w.heap.size, 1, none⟩ = some (.int .i64 16) ∧ w'.cell? ⟨w.heap.size, 2, none⟩ = some (.slice A 3 c)) (first | go_keep | (go_split_ands; exact ⟨hx2.cell (by assumption), hx2.cell (by assumption), hx2.cell (by assumption)⟩)) (first | (go_at_call 23; refine (r_tt16 _).mono ?_; rintro e w9 ⟨rfl, rfl⟩) | (go_at_call 107; refine (r_used0 A c _ (hA.ext hx)).mono ?_; rintro e w3 ⟨B, cb, rfl, hx2⟩; have hx := hx.trans hx2) | (go_at_call 110; refine (HF _ _ _).mono ?_; rintro e w4 ⟨v, rfl, hv, hx2⟩; have hx := hx.trans hx2))
  obtain ⟨C, cc, rfl, _, hC⟩ := hv.runs (by intro r hr; obtain rfl := List.mem_singleton.1 hr; exact ⟨⟨by decide, by decide⟩, by decide, by decide⟩) (by decide)
  go_wp2
  go_ret
  exact ⟨C, cc, rfl, hC, hx⟩

/-! ### Create at the example's table -/
def labA : Label := ⟨5, 1, ⟨#[65]⟩, ⟨#[]⟩, [⟨4, 3⟩]⟩
def labsA : List Label := [labA, zeroL, zeroL]
set_option maxHeartbeats 1000000 in
theorem r_Create0 (A : Option Addr) (c : Nat) (w : World) (K : Nat → Prop) (hK : ∀ b, K b → b < w.heap.size) (hS : LabS K w A (List.replicate 3 zeroL)) :
    Calls Tryz.prog 55 #[.agg #[.string ⟨#[86]⟩, .int .i64 16, .slice A 3 c], .agg #[.int .i64 5, .int .i64 1], .string ⟨#[65]⟩, .string ⟨#[]⟩, .int .i64 3] w fun e w' =>
      ∃ B cb, e = .returned (.tuple #[.agg #[.string ⟨#[86]⟩, .int .i64 16, .slice B 3 cb], .int .i64 0]) ∧ LabS K w' B labsA ∧ Ext w w' := by
  have hu2 := Tryz.underlying24
  have hu3 := Tryz.underlying43
  have hu4 := Tryz.underlying40
  have hA := hS.lab
  go_enter Tryz.func55, Tryz.ntmps55
  go_wp2_with fail
  refine (r_Valid0 A c _ (hA.ext ((((Ext.refl _).alloc _).alloc _).alloc _))).mono ?_
  rintro e w1 ⟨rfl, hx1⟩
  have hT := (((Blk.new w 24 [.string ⟨#[86]⟩, .int .i64 16, .slice A 3 c]).alloc (.cells #[.int .i64 5, .int .i64 1] 40)).alloc (.cells #[.string ⟨#[]⟩, .int .i64 0, .slice none 0 0] 24)).ext hx1
  have hR := ((Blk.new_at (g := w.heap.size + 1) (w := w.alloc (.cells #[.string ⟨#[86]⟩, .int .i64 16, .slice A 3 c] 24)) (by simp) 40 [.int .i64 5, .int .i64 1]).alloc (.cells #[.string ⟨#[]⟩, .int .i64 0, .slice none 0 0] 24)).ext hx1
  have hO := (Blk.new_at (g := w.heap.size + 1 + 1) (w := (w.alloc (.cells #[.string ⟨#[86]⟩, .int .i64 16, .slice A 3 c] 24)).alloc (.cells #[.int .i64 5, .int .i64 1] 40)) (by simp) 24 [.string ⟨#[]⟩, .int .i64 0, .slice none 0 0]).ext hx1
  have hx := ((((Ext.refl w).alloc _).alloc _).alloc _).trans hx1
  have t0 := hT.cell 0 rfl
  have t1 := hT.cell 1 rfl
  have t2 := hT.cell 2 rfl
  have q0 := hR.cell 0 rfl
  have q1 := hR.cell 1 rfl
  go_wp2
  go_loopg [12, 13] 3 (fun g s i wr => ∃ (k : Nat) (iv sv : Int), k = g ∧ k ≤ 3 ∧ i = .int .i64 iv ∧ s = .int .i64 sv ∧ Hid (iv + 1 = k) ∧ Hid (sv = if k = 3 then -1 else (k : Int)) ∧ Ext w wr ∧ Blk wr w.heap.size 24 [.string ⟨#[86]⟩, .int .i64 16, .slice A 3 c] ∧ Blk wr (w.heap.size + 1) 40 [.int .i64 5, .int .i64 1] ∧ Blk wr (w.heap.size + 1 + 1) 24 [.string ⟨#[]⟩, .int .i64 0, .slice none 0 0])
  case atStart => exact ⟨3, 2, -1, by omega, by omega, rfl, rfl, rfl, rfl, hx, hT, hR, hO⟩
  case round =>
    clear t0 t1 t2 q0 q1
    obtain ⟨k, iv, sv, hk, hk3, rfl, rfl, hiv, hsv, hx2, hT2, hR2, hO2⟩ := hrel
    have hk := Lib.hid hk
    have t0 := hT2.cell 0 rfl
    have t1 := hT2.cell 1 rfl
    have t2 := hT2.cell 2 rfl
    have q0 := hR2.cell 0 rfl
    have q1 := hR2.cell 1 rfl
    rcases Nat.eq_zero_or_pos k with h0 | h0
    · obtain rfl : iv = -1 := by have := hiv.out; omega
      obtain rfl : sv = 0 := by have := hsv.out; rw [h0] at this; simpa using this
      clear h0
      go_wp2_with fail
      refine (r_Free0 A c _ (hA.ext hx2)).mono ?_
      rintro e w3 ⟨B, cb, rfl, hB, hx3⟩
      have hT3 := hT2.ext hx3
      have hR3 := hR2.ext hx3
      have hO3 := hO2.ext hx3
      have hx4 := hx2.trans hx3
      clear t0 t1 t2 q0 q1
      go_wp2_with fail
      refine (r_Alloc1 B cb free16 3 16 ⟨4, 12⟩ (by decide) (by decide) (by decide) ⟨⟨by decide, by decide⟩, by decide, by decide⟩ _ hB norm_free16).mono ?_
      rintro e w4 ⟨g, rfl, hG, hgl, hx5⟩
      have hT4 := hT3.ext hx5
      have hR4 := hR3.ext hx5
      have hO4 := hO3.ext hx5
      have hx6 := hx4.trans hx5
      have t0 := hT4.cell 0 rfl
      have t1 := hT4.cell 1 rfl
      have t2 := hT4.cell 2 rfl
      have q0 := hR4.cell 0 rfl
      have q1 := hR4.cell 1 rfl
      have o0 := hO4.cell 0 rfl
      have o1 := hO4.cell 1 rfl
      have o2 := hO4.cell 2 rfl
      have z0 := hO4.frozen 0
      have z1 := hO4.frozen 1
      have z2 := hO4.frozen 2
      have hE : Runs w4 (some ⟨g, 0, none⟩) labA.ext := ⟨Sl.blk hG, fun q hq => by obtain rfl := List.mem_singleton.1 hq; exact ⟨⟨by decide, by decide⟩, by decide, by decide⟩, by decide⟩
      have h3l := hO3.lt
      let K' : Nat → Prop := fun b => K b ∨ b = w.heap.size + 1 + 1
      have HP : Calls Tryz.prog 87 #[.agg #[.string ⟨#[86]⟩, .int .i64 16, .slice A 3 c], .int .i64 0, .agg #[.int .i64 5, .int .i64 1, .string ⟨#[65]⟩, .string ⟨#[]⟩, .slice (some ⟨g, 0, none⟩) 1 1]] w4 fun e w' =>
          ∃ B cb, e = .returned (.agg #[.string ⟨#[86]⟩, .int .i64 16, .slice B 3 cb]) ∧ LabS K' w' B labsA ∧ Ext w4 w' :=
        r_put ⟨#[86]⟩ 16 A c (List.replicate 3 zeroL) 0 labA (some ⟨g, 0, none⟩) 1 ⟨⟨by decide, by decide⟩, ⟨by decide, by decide⟩, by decide, by decide⟩ (by decide) (by decide) (by decide) w4 K' (fun b hb => by rcases hb with h | h; have := hK b h; have := hx6.le; omega; have := hO4.lt; omega) (hS.widen hx6 (fun b hb => by rcases hb with h | h; exact .inl h; right; omega)) (Runs.stays (fun _ => ⟨g, 0, rfl, fun hb => by rcases hb with h | h; have := hK _ h; omega; omega, fun j v hv => by rw [Nat.zero_add]; exact hG.cell j hv⟩) hE)
      go_wp2_with fail
      refine HP.mono ?_
      rintro e w5 ⟨C, cb2, rfl, hC, hx7⟩
      clear HP o0 o1 o2 z0 z1 z2
      have hO5 := hO4.ext hx7
      have o0 := hO5.cell 0 rfl
      have o1 := hO5.cell 1 rfl
      have o2 := hO5.cell 2 rfl
      have z0 := hO5.frozen 0
      have z1 := hO5.frozen 1
      have z2 := hO5.frozen 2
      go_wp2
      have hF := ((hO5.set 0 (.string ⟨#[86]⟩)).set 1 (.int .i64 16)).set 2 (.slice C 3 cb2)
      have hxF := (((hx6.trans hx7).set (p := ⟨w.heap.size + 1 + 1, 0, none⟩) (by dsimp only; omega) (.string ⟨#[86]⟩)).set (p := ⟨w.heap.size + 1 + 1, 1, none⟩) (by dsimp only; omega) (.int .i64 16)).set (p := ⟨w.heap.size + 1 + 1, 2, none⟩) (by dsimp only; omega) (.slice C 3 cb2)
      have e0 := hF.cell 0 rfl
      have e1 := hF.cell 1 rfl
      have e2 := hF.cell 2 rfl
      refine bodyPost_ret (v := .tuple #[.agg #[.string ⟨#[86]⟩, .int .i64 16, .slice C 3 cb2], .int .i64 0]) (by simp [results, Tryz.results55, go_sem, e0, e1, e2]) rfl ⟨C, cb2, rfl, ?_, hxF⟩
      exact (hC.go ((((KS.refl _ w5).set (p := ⟨w.heap.size + 1 + 1, 0, none⟩) (.inr rfl) (.string ⟨#[86]⟩)).set (p := ⟨w.heap.size + 1 + 1, 1, none⟩) (.inr rfl) (.int .i64 16)).set (p := ⟨w.heap.size + 1 + 1, 2, none⟩) (.inr rfl) (.slice C 3 cb2))).sub fun b hb => .inl hb
    · obtain ⟨m, rfl⟩ : ∃ m, k = m + 1 := ⟨k - 1, by omega⟩
      obtain rfl : iv = (m : Int) := by have := hiv.out; omega
      have hm3 : m < 3 := by omega
      obtain ⟨b, o, B, cB, rfl, a0, a1, a2, a3, a4⟩ := zero_at (hA.ext hx2) hm3
      have hmi : (0 : Int) ≤ (m : Int) := by omega
      have hmi2 : (m : Int) < (3 : Int) := by omega
      go_wp2_with fail
      go_quiet (fail)
      go_wp2_with fail
      refine (r_empty0 B cB _).mono ?_
      rintro e w3 ⟨rfl, hx3⟩
      go_wp2
      go_roundg m
      case measure => have := hk.out; omega
      case rel => exact ⟨m, m - 1, m, rfl, by omega, by go_num, by go_num, by show (m : Int) - 1 + 1 = m; omega, by show (m : Int) = _; rw [if_neg (by omega)], (hx2.drewN _).trans hx3, (hT2.drewN _).ext hx3, (hR2.drewN _).ext hx3, (hO2.drewN _).ext hx3⟩

theorem p_example (w : World) : Calls Tryz.prog 26 #[] w fun e w' =>
      ∃ B cb, e = .returned (.agg #[.string ⟨#[86]⟩, .int .i64 16, .slice B 3 cb]) ∧ Labels w' B labsA ∧ Ext w w' := by
  have hu2 := Tryz.underlying24
  have hu3 := Tryz.underlying43
  have hu4 := Tryz.underlying40
  go_enter Tryz.func26, Tryz.ntmps26
  go_wp2_with fail
  refine (r_NewV _).mono ?_
  rintro e w1 ⟨A, c, rfl, hA, hx1⟩
  have hO := (Blk.new w 24 [.string ⟨#[]⟩, .int .i64 0, .slice none 0 0]).ext hx1
  have hol := hO.lt
  have hx := ((Ext.refl w).alloc _).trans hx1
  have hle := hx.le
  go_wp2_with fail
  refine (r_Create0 A c _ (fun b => b = w.heap.size ∨ b = w1.heap.size) (fun b hb => by rcases hb with rfl | rfl <;> simp <;> omega) (hA.widen ((Ext.refl w1).alloc _) (fun b hb => by rcases hb with rfl | rfl; left; simp; right; exact Nat.le_refl _))).mono ?_
  rintro e w2 ⟨B, cb, rfl, hB, hx2⟩
  have hN := (Blk.new w1 24 [.string ⟨#[86]⟩, .int .i64 16, .slice A 3 c]).ext hx2
  have hO2 := (hO.alloc (.cells #[.string ⟨#[86]⟩, .int .i64 16, .slice A 3 c] 24)).ext hx2
  have hx3 := (hx.alloc (.cells #[.string ⟨#[86]⟩, .int .i64 16, .slice A 3 c] 24)).trans hx2
  have n0 := hN.cell 0 rfl
  have n1 := hN.cell 1 rfl
  have n2 := hN.cell 2 rfl
  have m0 := hN.frozen 0
  have m1 := hN.frozen 1
  have m2 := hN.frozen 2
  have o0 := hO2.cell 0 rfl
  have o1 := hO2.cell 1 rfl
  have o2 := hO2.cell 2 rfl
  have z0 := hO2.frozen 0
  have z1 := hO2.frozen 1
  have z2 := hO2.frozen 2
  have hol2 := hO2.lt
  go_wp2
  have hF := (((((hO2.far (p := ⟨w1.heap.size, 0, none⟩) (by dsimp only; omega) (.string ⟨#[86]⟩)).far (p := ⟨w1.heap.size, 1, none⟩) (by dsimp only; omega) (.int .i64 16)).far (p := ⟨w1.heap.size, 2, none⟩) (by dsimp only; omega) (.slice B 3 cb)).set 0 (.string ⟨#[86]⟩)).set 1 (.int .i64 16)).set 2 (.slice B 3 cb)
  have e0 := hF.cell 0 rfl
  have e1 := hF.cell 1 rfl
  have e2 := hF.cell 2 rfl
  have hle3 := hx3.le
  have hxF := (((((hx3.set (p := ⟨w1.heap.size, 0, none⟩) hle (.string ⟨#[86]⟩)).set (p := ⟨w1.heap.size, 1, none⟩) hle (.int .i64 16)).set (p := ⟨w1.heap.size, 2, none⟩) hle (.slice B 3 cb)).set (p := ⟨w.heap.size, 0, none⟩) (Nat.le_refl _) (.string ⟨#[86]⟩)).set (p := ⟨w.heap.size, 1, none⟩) (Nat.le_refl _) (.int .i64 16)).set (p := ⟨w.heap.size, 2, none⟩) (Nat.le_refl _) (.slice B 3 cb)
  have hk := ((((((KS.refl (fun b => b = w.heap.size ∨ b = w1.heap.size) w2).set (p := ⟨w1.heap.size, 0, none⟩) (.inr rfl) (.string ⟨#[86]⟩)).set (p := ⟨w1.heap.size, 1, none⟩) (.inr rfl) (.int .i64 16)).set (p := ⟨w1.heap.size, 2, none⟩) (.inr rfl) (.slice B 3 cb)).set (p := ⟨w.heap.size, 0, none⟩) (.inl rfl) (.string ⟨#[86]⟩)).set (p := ⟨w.heap.size, 1, none⟩) (.inl rfl) (.int .i64 16)).set (p := ⟨w.heap.size, 2, none⟩) (.inl rfl) (.slice B 3 cb)
  exact bodyPost_ret (v := .agg #[.string ⟨#[86]⟩, .int .i64 16, .slice B 3 cb]) (by simp [results, Tryz.results26, go_sem, e0, e1, e2]) rfl ⟨B, cb, rfl, (hB.go hk).lab, hxF⟩
end Go.Proofs.YtjdmgpefjehkaaaGreatDoor
