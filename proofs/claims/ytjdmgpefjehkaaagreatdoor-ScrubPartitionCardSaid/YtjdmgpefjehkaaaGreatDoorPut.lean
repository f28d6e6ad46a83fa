/- dasdref08.put: a copy of the table with another label in a slot. -/
import Derived.Test.YtjdmgpefjehkaaaGreatDoorUsed
import Derived.Test.YtjdmgpefjehkaaaGreatDoorExNew
import Derived.Test.YtjdmgpefjehkaaaGreatDoorStay
namespace Go.Proofs.YtjdmgpefjehkaaaGreatDoor
open Go.RowKit
attribute [local go_sem] Instr.field asAgg
set_option maxRecDepth 100000

theorem labs_one (xs : List LAt) : ∀ u ∈ xs.flatMap lCells, u.oneCell' = true := by
  intro u hu
  obtain ⟨x, _, h⟩ := List.mem_flatMap.1 hu
  simp [lCells] at h
  rcases h with rfl | rfl | rfl | rfl | rfl <;> rfl
theorem labs_len (xs : List LAt) : (xs.flatMap lCells).length = xs.length * 5 := flatMap_len lCells 5 lCells_len xs
theorem set5 (X : LAt) : ∀ (xs : List LAt) (i : Nat), i < xs.length →
    ((((((xs.flatMap lCells).set (i * 5) (.int .i64 X.l.id)).set (i * 5 + 1) (.int .i64 X.l.unit)).set (i * 5 + 2) (.string X.l.name)).set (i * 5 + 3) (.string X.l.note)).set (i * 5 + 4) (.slice X.A X.l.ext.length X.c)) = (xs.set i X).flatMap lCells
  | x :: r, 0, _ => by simp [lCells]
  | x :: r, i + 1, h => by
    have ih := set5 X r i (by simpa using h)
    rw [List.set_cons_succ, List.flatMap_cons, List.flatMap_cons, ← ih]
    have e0 : (i + 1) * 5 = i * 5 + 5 := by omega
    rw [e0]
    rfl
theorem r_put (nm : ByteArray) (tr : Int) (A : Option Addr) (c : Nat) (ls : List Label) (i : Nat) (l : Label) (E : Option Addr) (cE : Nat) (hl : l.ok) (hc : l.ext.length ≤ cE) (hi : i < ls.length) (hls : (ls.length : Int) ≤ 1000000) (w : World) (K : Nat → Prop) (hK : ∀ b, K b → b < w.heap.size) (hA : LabS K w A ls) (hE : Stays K w (Runs · E l.ext)) :
    Calls Tryz.prog 87 #[.agg #[.string nm, .int .i64 tr, .slice A ls.length c], .int .i64 i, .agg #[.int .i64 l.id, .int .i64 l.unit, .string l.name, .string l.note, .slice E l.ext.length cE]] w fun e w' =>
      ∃ B cb, e = .returned (.agg #[.string nm, .int .i64 tr, .slice B ls.length cb]) ∧ LabS K w' B (ls.set i l) ∧ Ext w w' := by
  have hu2 := Tryz.underlying24
  have hu3 := Tryz.underlying43
  have hok := hA.ok
  obtain ⟨xs, rfl, h2, h3⟩ := hA.ex
  have hi' : i < xs.length := by simpa using hi
  have hlen : (xs.map (·.l)).length = xs.length := List.length_map ..
  have hls' : (xs.length : Int) ≤ 1000000 := by omega
  have hxl := labs_len xs
  have hs5 := Lib.hid (set5 ⟨l, E, cE⟩ xs i hi')
  rw [hlen]
  have hxl := Lib.hid hxl
  have hlen := Lib.hid hlen
  clear hls
  have hx3 := (((Ext.refl w).alloc (.cells #[.string nm, .int .i64 tr, .slice A xs.length c] 24)).alloc (.cells #[.int .i64 l.id, .int .i64 l.unit, .string l.name, .string l.note, .slice E l.ext.length cE] 43)).alloc (.cells #[.string ⟨#[]⟩, .int .i64 0, .slice none 0 0] 24)
  have hx4 := hx3.alloc (.cells #[] 43)
  have HO := own_new ((((w.alloc (.cells #[.string nm, .int .i64 tr, .slice A xs.length c] 24)).alloc (.cells #[.int .i64 l.id, .int .i64 l.unit, .string l.name, .string l.note, .slice E l.ext.length cE] 43)).alloc (.cells #[.string ⟨#[]⟩, .int .i64 0, .slice none 0 0] 24))) w.heap.size 43 5 hx3.le
  simp only [World.size_alloc] at HO
  have hT := (((Blk.new w 24 [.string nm, .int .i64 tr, .slice A xs.length c]).alloc (.cells #[.int .i64 l.id, .int .i64 l.unit, .string l.name, .string l.note, .slice E l.ext.length cE] 43)).alloc (.cells #[.string ⟨#[]⟩, .int .i64 0, .slice none 0 0] 24)).alloc (.cells #[] 43)
  have hL := ((Blk.new_at (g := w.heap.size + 1) (w := w.alloc (.cells #[.string nm, .int .i64 tr, .slice A xs.length c] 24)) (by simp) 43 [.int .i64 l.id, .int .i64 l.unit, .string l.name, .string l.note, .slice E l.ext.length cE]).alloc (.cells #[.string ⟨#[]⟩, .int .i64 0, .slice none 0 0] 24)).alloc (.cells #[] 43)
  have hR := (Blk.new_at (g := w.heap.size + 1 + 1) (w := (w.alloc (.cells #[.string nm, .int .i64 tr, .slice A xs.length c] 24)).alloc (.cells #[.int .i64 l.id, .int .i64 l.unit, .string l.name, .string l.note, .slice E l.ext.length cE] 43)) (by simp) 24 [.string ⟨#[]⟩, .int .i64 0, .slice none 0 0]).alloc (.cells #[] 43)
  have hTf := own_far HO hT (by decide)
  have hLf : some (w.heap.size + 1) ≠ Value.ownBlock (.slice (some ⟨w.heap.size + 1 + 1 + 1, 0, none⟩) 0 0) := by simp [Value.ownBlock]
  have hRf := own_far HO hR (by decide)
  go_enter Tryz.func87, Tryz.ntmps87
  go_wp2_with (at_builtin; refine app_src w.heap.size rfl _ _ _ 43 (.agg #[.int .i64 0, .int .i64 0, .string ⟨#[]⟩, .string ⟨#[]⟩, .slice none 0 0]) 5 72 rfl Tryz.underlying22 lab_info rfl (by omega) (by omega) (.slice (some ⟨w.heap.size + 1 + 1 + 1, 0, none⟩) 0 0) 0 [] A xs.length c (xs.flatMap lCells) rfl rfl hxl.out (labs_one xs) (h2.sl.ext hx4) HO hx4.le (by omega) ?_; intro v1 w2 ho hg hat; simp only [Nat.zero_add, List.nil_append] at ho; obtain ⟨g, cap, rfl, hgb, hgl⟩ := ho.form (by omega); have hT1 := hT.grown hg hTf; have hL1 := hL.grown hg hLf; have hR1 := hR.grown hg hRf; have y2 := hT1.cell 2 rfl; have z2 := hT1.frozen 2; have oT := own_far ho hT1 (by decide); have hT2 := hT1.set 2 (.slice (some ⟨g, 0, none⟩) xs.length cap); have oR := own_far ho hR1 (by decide); simp only [Value.ownBlock, ne_eq, Option.some.injEq] at oT oR; have oL : ¬ (w.heap.size + 1 = g) := (by simp [Value.ownBlock] at hat; omega); have oT' := Ne.symm oT; have oR' := Ne.symm oR; have oL' := Ne.symm oL; have l0 := hL1.cell 0 rfl; have l1 := hL1.cell 1 rfl; have l2 := hL1.cell 2 rfl; have l3 := hL1.cell 3 rfl; have l4 := hL1.cell 4 rfl; have y0 := hT1.cell 0 rfl; have y1 := hT1.cell 1 rfl; have r0 := hR1.cell 0 rfl; have r1 := hR1.cell 1 rfl; have r2 := hR1.cell 2 rfl; have s0 := hR1.frozen 0; have s1 := hR1.frozen 1; have s2 := hR1.frozen 2; have v0 : w2.cell? ⟨g, i * 5, none⟩ = some (.int .i64 xs[i].l.id) := (ho.cellAt (i * 5) (by omega)).trans ((flatMap_at lCells 5 lCells_len xs i 0 hi' (by omega)).trans rfl); have v1 : w2.cell? ⟨g, i * 5 + 1, none⟩ = some (.int .i64 xs[i].l.unit) := (ho.cellAt (i * 5 + 1) (by omega)).trans ((flatMap_at lCells 5 lCells_len xs i 1 hi' (by omega)).trans rfl); have v2 : w2.cell? ⟨g, i * 5 + 2, none⟩ = some (.string xs[i].l.name) := (ho.cellAt (i * 5 + 2) (by omega)).trans ((flatMap_at lCells 5 lCells_len xs i 2 hi' (by omega)).trans rfl); have v3 : w2.cell? ⟨g, i * 5 + 3, none⟩ = some (.string xs[i].l.note) := (ho.cellAt (i * 5 + 3) (by omega)).trans ((flatMap_at lCells 5 lCells_len xs i 3 hi' (by omega)).trans rfl); have v4 : w2.cell? ⟨g, i * 5 + 4, none⟩ = some (.slice xs[i].A xs[i].l.ext.length xs[i].c) := (ho.cellAt (i * 5 + 4) (by omega)).trans ((flatMap_at lCells 5 lCells_len xs i 4 hi' (by omega)).trans rfl); have f0 := ho.frozenAt (i * 5); have f1 := ho.frozenAt (i * 5 + 1); have f2 := ho.frozenAt (i * 5 + 2); have f3 := ho.frozenAt (i * 5 + 3); have f4 := ho.frozenAt (i * 5 + 4))
  have s0 := own_set ho (p := ⟨w.heap.size, 2, none⟩) (by simpa [Value.ownBlock] using oT) (.slice (some ⟨g, 0, none⟩) xs.length cap)
  have s1 := (s0.stored (i * 5) (.int .i64 l.id)).1
  have s2 := (s1.stored (i * 5 + 1) (.int .i64 l.unit)).1
  have s3 := (s2.stored (i * 5 + 2) (.string l.name)).1
  have s4 := (s3.stored (i * 5 + 3) (.string l.note)).1
  have s5 := (s4.stored (i * 5 + 4) (.slice E l.ext.length cE)).1
  have hs5 := hs5.out
  rw [hs5] at s5
  have oRb : some (w.heap.size + 1 + 1) ≠ Value.ownBlock (.slice (some ⟨g, 0, none⟩) xs.length cap) := by simpa [Value.ownBlock] using oR
  have s6 := own_set (own_set (own_set s5 (p := ⟨w.heap.size + 1 + 1, 0, none⟩) oRb (.string nm)) (p := ⟨w.heap.size + 1 + 1, 1, none⟩) oRb (.int .i64 tr)) (p := ⟨w.heap.size + 1 + 1, 2, none⟩) oRb (.slice (some ⟨g, 0, none⟩) xs.length cap)
  have hRF := ((((((((hR1.far (p := ⟨w.heap.size, 2, none⟩) (by dsimp only; omega) (.slice (some ⟨g, 0, none⟩) xs.length cap)).far (p := ⟨g, i * 5, none⟩) oR (.int .i64 l.id)).far (p := ⟨g, i * 5 + 1, none⟩) oR (.int .i64 l.unit)).far (p := ⟨g, i * 5 + 2, none⟩) oR (.string l.name)).far (p := ⟨g, i * 5 + 3, none⟩) oR (.string l.note)).far (p := ⟨g, i * 5 + 4, none⟩) oR (.slice E l.ext.length cE)).set 0 (.string nm)).set 1 (.int .i64 tr)).set 2 (.slice (some ⟨g, 0, none⟩) xs.length cap)
  have hx5 : Ext w w2 := hx4.grown hg (fun k hk => by simp [Value.ownBlock] at hk; omega)
  have hxF := ((((((((hx5.set (p := ⟨w.heap.size, 2, none⟩) (Nat.le_refl _) (.slice (some ⟨g, 0, none⟩) xs.length cap)).set (p := ⟨g, i * 5, none⟩) hgb (.int .i64 l.id)).set (p := ⟨g, i * 5 + 1, none⟩) hgb (.int .i64 l.unit)).set (p := ⟨g, i * 5 + 2, none⟩) hgb (.string l.name)).set (p := ⟨g, i * 5 + 3, none⟩) hgb (.string l.note)).set (p := ⟨g, i * 5 + 4, none⟩) hgb (.slice E l.ext.length cE)).set (p := ⟨w.heap.size + 1 + 1, 0, none⟩) (by dsimp only; omega) (.string nm)).set (p := ⟨w.heap.size + 1 + 1, 1, none⟩) (by dsimp only; omega) (.int .i64 tr)).set (p := ⟨w.heap.size + 1 + 1, 2, none⟩) (by dsimp only; omega) (.slice (some ⟨g, 0, none⟩) xs.length cap)
  have e0 := hRF.cell 0 rfl
  have e1 := hRF.cell 1 rfl
  have e2 := hRF.cell 2 rfl
  refine bodyPost_ret (v := .agg #[.string nm, .int .i64 tr, .slice (some ⟨g, 0, none⟩) xs.length cap]) (by simp [results, Tryz.results87, go_sem, e0, e1, e2]) rfl ⟨_, ⟨cap, rfl⟩, ⟨⟨xs.set i ⟨l, E, cE⟩, by rw [List.map_set], SlOut.own s6 (fun b hb hKb => by have := hK b hKb; omega), fun x hx => ?_⟩, fun q hq => ?_, ?_⟩, hxF⟩
  · rcases List.mem_or_eq_of_mem_set hx with h | rfl
    · exact ⟨(h3 x h).1.ext hxF, (h3 x h).2⟩
    · exact ⟨hE.ext hxF, hc⟩
  · rcases List.mem_or_eq_of_mem_set hq with h | rfl
    · exact hok q h
    · exact hl
  · simp; omega
end Go.Proofs.YtjdmgpefjehkaaaGreatDoor
