/- scrub.Lines: the walk. -/
import Derived.Test.YtjdmgpefjehkaaaGreatDoorPLines
import Derived.Test.YtjdmgpefjehkaaaGreatDoorMaps
namespace Go.Proofs.YtjdmgpefjehkaaaGreatDoor
open Go.RowKit
attribute [local go_sem] Instr.field asAgg
set_option maxRecDepth 100000

theorem set_new (w : World) (o o' : Obj) : ({ (w.alloc o) with heap := (w.alloc o).heap.setIfInBounds w.heap.size o' } : World) = w.alloc o' := by
  have : (w.heap.push o).setIfInBounds w.heap.size o' = w.heap.push o' := by
    apply Array.ext_getElem?
    intro i
    rw [Array.getElem?_setIfInBounds, Array.getElem?_push, Array.getElem?_push]
    by_cases h : w.heap.size = i
    · simp [h]
    · simp [h, Ne.symm h]
  simp only [World.alloc, this]
theorem zero_str (w : World) : (zeroValue 9).run Tryz.prog w = .ok (.string ⟨#[]⟩) w := by kernel_rfl
theorem LI.str {w0 w : World} {xc : List Value} {l : List ByteArray} {S S' : ByteArray} (h : LI w0 xc w (l ++ [S])) (e : S = S') : LI w0 xc w (l ++ [S']) := e ▸ h
theorem lUnit_size (k : Int) (h : I64 k) : (lUnit k).size ≤ 40 := by
  have := itoaB_size _ h
  unfold lUnit
  split
  · exact Nat.zero_le _
  · have e : bOfUnit.size = 9 := rfl
    rw [ByteArray.size_append, e]; omega
def wordTab : Array MapEntry := #[⟨.int .i64 11, .string bDamaged, 0⟩, ⟨.int .i64 12, .string bOld, 1⟩]
theorem ins1 (W : World) : (Instr.mapUpdate 92 (.map (some W.heap.size)) (.int .i64 11) (.string ⟨#[100, 97, 109, 97, 103, 101, 100]⟩)).run Tryz.prog (W.alloc (.map #[] 0)) = .ok () (W.alloc (.map #[⟨.int .i64 11, .string bDamaged, 0⟩] 1)) :=
  (run_add Tryz.underlying92 Tryz.underlying59 (heap_alloc_new W _) 11 _ rfl).trans (by rw [set_new]; rfl)
theorem ins2 (W : World) : (Instr.mapUpdate 92 (.map (some W.heap.size)) (.int .i64 12) (.string ⟨#[111, 108, 100]⟩)).run Tryz.prog (W.alloc (.map #[⟨.int .i64 11, .string bDamaged, 0⟩] 1)) = .ok () (W.alloc (.map wordTab 2)) :=
  (run_add Tryz.underlying92 Tryz.underlying59 (heap_alloc_new W _) 12 _ rfl).trans (by rw [set_new]; rfl)
theorem look11 {W : World} {m : Nat} (h : W.heap[m]? = some (.map wordTab 2)) : (Instr.lookup 92 (.map (some m)) (.int .i64 11) true).run Tryz.prog W = .ok (.tuple #[.string bDamaged, .bool true]) W :=
  run_get Tryz.underlying92 Tryz.underlying59 h 11 0 _ rfl true
theorem look12 {W : World} {m : Nat} (h : W.heap[m]? = some (.map wordTab 2)) : (Instr.lookup 92 (.map (some m)) (.int .i64 12) true).run Tryz.prog W = .ok (.tuple #[.string bOld, .bool true]) W :=
  run_get Tryz.underlying92 Tryz.underlying59 h 12 1 _ rfl true
theorem lookNo {W : World} {m : Nat} (h : W.heap[m]? = some (.map wordTab 2)) {c : Int} (h1 : (c == 11) = false) (h2 : (c == 12) = false) : (Instr.lookup 92 (.map (some m)) (.int .i64 c) true).run Tryz.prog W = .ok (.tuple #[.string ⟨#[]⟩, .bool false]) W :=
  run_miss Tryz.underlying92 Tryz.underlying59 h c (zero_str _) (by simp [Instr.findNow, Instr.sameNow, wordTab, h1, h2]) true
def scrubCells (x : Scrub) (A2 A3 A4 : Option Addr) (c2 c3 c4 : Nat) : List Value := [.int .i64 x.free, .int .i64 x.used, .slice A2 x.tent.length c2, .slice A3 x.shared.length c3, .slice A4 x.bad.length c4]

theorem LI.start (w : World) (xc : List Value) (ht : Tab10 w) : LI w xc (((w.alloc (.cells xc.toArray 29)).alloc (.cells #[.slice none 0 0] 56)).alloc (.cells #[.func (.func 56) #[] #[]] 90)) [] :=
  ⟨((Blk.new w 29 xc).alloc _).alloc _, ⟨_, by exact (Blk.new_at (g := w.heap.size + 1) (by simp) 56 [_]).alloc _, World.ownsRow_nil _ _ _ _⟩, by exact Blk.new_at (g := w.heap.size + 1 + 1) (by simp) 90 [_], ht, (((Ext.refl w).alloc _).alloc _).alloc _⟩

set_option maxHeartbeats 4000000 in
theorem p_Lines (x : Scrub) (A2 A3 A4 : Option Addr) (c2 c3 c4 : Nat) (hsm : (x.tent.length : Int) + x.shared.length + x.bad.length ≤ 1000000) (w : World) (hX : ScrubOk w x A2 A3 A4) (ht : Tab10 w) :
    Calls Tryz.prog 27 #[.agg #[.int .i64 x.free, .int .i64 x.used, .slice A2 x.tent.length c2, .slice A3 x.shared.length c3, .slice A4 x.bad.length c4]] w fun e w' =>
      ∃ B cb, e = .returned (.slice B (linesS x).length cb) ∧ Strs w' B (linesS x) ∧ Ext w w' := by
  have hu := Tryz.underlying29
  have hu2 := Tryz.underlying40
  have hf := hX.free
  have hs := hX.used
  have s1 := itoaB_size _ hf
  have s2 := itoaB_size _ hs
  have q1 : ¬ 9223372036854775807 < 5 + (itoaB x.free).size := by omega
  have q2 : ¬ 9223372036854775807 < 5 + (itoaB x.used).size := by omega
  generalize hxc : scrubCells x A2 A3 A4 c2 c3 c4 = xc
  have x0 : xc[0]? = some (.int .i64 x.free) := by rw [← hxc]; rfl
  have x1 : xc[1]? = some (.int .i64 x.used) := by rw [← hxc]; rfl
  have x2 : xc[2]? = some (.slice A2 x.tent.length c2) := by rw [← hxc]; rfl
  have x3 : xc[3]? = some (.slice A3 x.shared.length c3) := by rw [← hxc]; rfl
  have x4 : xc[4]? = some (.slice A4 x.bad.length c4) := by rw [← hxc]; rfl
  have hxc := Lib.hid hxc
  have hmf := run_func
  have hS : LI w xc (((w.alloc (.cells (scrubCells x A2 A3 A4 c2 c3 c4).toArray 29)).alloc (.cells #[.slice none 0 0] 56)).alloc (.cells #[.func (.func 56) #[] #[]] 90)) [] := hxc.out ▸ LI.start w _ ht
  go_enter Tryz.func27, Tryz.ntmps27
  go_wp2_with fail
  have hI := hS
  clear hS
  go_wp2_with (first | (go_at_call 56; refine (p_itoa _ ?_ _ hI.tab).mono ?_; (first | exact hf | exact hs); rintro e w1 ⟨rfl, eB⟩; have hI := hI.mono eB; have d0 := hI.X.cell 0 x0; have d1 := hI.X.cell 1 x1; have d2 := hI.X.cell 2 x2; have dN := hI.N.cell 0 rfl) | (go_at_call 58; (refine (p_addL w xc _ _ (by first | (simp; done) | (simp; omega)) _ hI).mono ?_; rintro e w1 ⟨rfl, hI, _⟩; have d0 := hI.X.cell 0 x0; have d1 := hI.X.cell 1 x1; have d2 := hI.X.cell 2 x2; have dN := hI.N.cell 0 rfl)))
  obtain ⟨hd, hhd, hI⟩ : ∃ hd : List ByteArray, Hid (hd = [bFree ++ itoaB x.free, bUsed ++ itoaB x.used]) ∧ LI w xc w1 (hd ++ (x.tent.take 0).map lTent) := ⟨_, rfl, hI⟩
  have hlen : hd.length = 2 := by rw [hhd.out]; rfl
  have hlen := Lib.hid hlen
  clear q1 q2 s1 s2 hf hs hmf
  go_loopg [36] x.tent.length (fun g i wr => ∃ k : Nat, k + g = x.tent.length ∧ i = .int .i64 k ∧ LI w xc wr (hd ++ (x.tent.take k).map lTent))
  case atStart => exact ⟨0, by omega, rfl, hI⟩
  case round =>
    clear hI d0 d1 d2 dN
    obtain ⟨k, hk, rfl, hA⟩ := hrel
    have hk := Lib.hid hk
    have d2 := hA.X.cell 2 x2
    have dN := hA.N.cell 0 rfl
    rcases Nat.lt_or_ge k x.tent.length with hlt | hge
    · obtain ⟨b, o, rfl, a1, a2⟩ := hX.tent.at_ hlt
      have h1 := hA.ext.cell a1
      have h2 := hA.ext.cell a2
      have i0 : (0 : Int) ≤ k := by omega
      have i1 : (k : Int) < x.tent.length := by omega
      obtain ⟨i2, i3⟩ := hX.tent.ok _ (List.getElem_mem hlt)
      have s1 := itoaB_size _ i2
      have s2 := itoaB_size _ i3
      have q1 : ¬ 9223372036854775807 < 10 + (itoaB x.tent[k].id).size := by omega
      have q2 : ¬ 9223372036854775807 < 10 + (itoaB x.tent[k].id).size + 9 := by omega
      have q3 : ¬ 9223372036854775807 < 10 + (itoaB x.tent[k].id).size + 9 + (itoaB x.tent[k].unit).size := by omega
      have hm := Lib.hid (map_take lTent x.tent k hlt)
      have hB := (hA.mono (Ext.alloc (Ext.refl _) (.cells #[.int .i64 x.tent[k].id, .int .i64 x.tent[k].unit] 40)))
      have d2 := hB.X.cell 2 x2
      have dN := hB.N.cell 0 rfl
      have hG := Blk.new wr 40 [.int .i64 x.tent[k].id, .int .i64 x.tent[k].unit]
      go_wp2_with fail
      have hBd := hB.mono (Ext.refl _).drew
      have hGd := hG.drew
      go_region_held3 (fun w' => w'.cell? ⟨w.heap.size + 1 + 1, 0, none⟩ = some (.func (.func 56) #[] #[]) ∧ w'.cell? ⟨wr.heap.size, 0, none⟩ = some (.int .i64 x.tent[k].id) ∧ w'.cell? ⟨wr.heap.size, 1, none⟩ = some (.int .i64 x.tent[k].unit)) (first | go_keep | (go_split_ands; exact ⟨hBd.N.cell 0 rfl, hGd.cell 0 rfl, hGd.cell 1 rfl⟩)) (first | (go_at_call 56; refine (p_itoa _ ?_ _ hBd.tab).mono ?_; (first | exact i2 | exact i3); rintro e w1 ⟨rfl, eB⟩; have hBd := hBd.mono eB; have hGd := hGd.ext eB) | (go_at_call 58; refine (p_addL w xc (lTent x.tent[k]) _ (by simp; omega) _ hBd).mono ?_; rintro e w1 ⟨rfl, hBd, hkp⟩; have hGd : Blk w1 wr.heap.size 40 [.int .i64 x.tent[k].id, .int .i64 x.tent[k].unit] := hkp _ _ hGd (by have := hA.ext.le; have := hA.X.lt; have := hA.N.lt; omega) (by intro cs fr hc; injection hc with _ hc; revert hc; decide)))
      go_wp2
      go_roundg (x.tent.length - k - 1)
      case measure => have := hk.out; omega
      case rel => exact ⟨k + 1, by omega, by go_num, by rw [hm.out, ← List.append_assoc]; exact hBd⟩
    · have hkk : k = x.tent.length := by have := hk.out; omega
      have htk : x.tent.take k = x.tent := List.take_of_length_le hge
      rw [htk] at hA
      have d3 := hA.X.cell 3 x3
      go_wp2
      go_loopg [57] x.shared.length (fun g i wr => ∃ k : Nat, k + g = x.shared.length ∧ i = .int .i64 k ∧ LI w xc wr (hd ++ x.tent.map lTent ++ (x.shared.take k).map lShared))
      case atStart => exact ⟨0, by omega, rfl, by simpa using hA⟩
      case round =>
        clear hA d2 d3 dN hk hkk hge htk
        obtain ⟨k, hk, rfl, hC⟩ := hrel
        have hk := Lib.hid hk
        have d4 := hC.X.cell 4 x4
        have dN := hC.N.cell 0 rfl
        rcases Nat.lt_or_ge k x.shared.length with hlt | hge
        · obtain ⟨b, o, rfl, a1⟩ := hX.shared.at_ hlt
          have h1 := hC.ext.cell a1
          have i2 := hX.shared.okAt hlt
          have s1 := itoaB_size _ i2
          have q1 : ¬ 9223372036854775807 < 13 + (itoaB x.shared[k]).size := by omega
          have hm := Lib.hid (map_take lShared x.shared k hlt)
          go_wp2_with (first | (go_at_call 56; refine (p_itoa _ i2 _ hC.tab).mono ?_; rintro e w1 ⟨rfl, eB⟩; have hC := hC.mono eB) | (go_at_call 58; refine (p_addL w xc (lShared x.shared[k]) _ (by simp [hlen.out]; omega) _ hC).mono ?_; rintro e w1 ⟨rfl, hC, _⟩))
          go_roundg (x.shared.length - k - 1)
          case measure => have := hk.out; omega
          case rel => exact ⟨k + 1, by omega, by go_num, by rw [hm.out, ← List.append_assoc]; exact hC⟩
        · have hkk : k = x.shared.length := by have := hk.out; omega
          have htk : x.shared.take k = x.shared := List.take_of_length_le hge
          rw [htk] at hC
          have hmn : wr.heap.size ≠ w.heap.size + 1 := by have := hC.N.lt; omega
          have hmm := run_mk
          have hi1 := ins1
          have hi2 := ins2
          have hD := hC.mono ((Ext.refl _).alloc (.map wordTab 2))
          have hM : (wr.alloc (.map wordTab 2)).heap[wr.heap.size]? = some (.map wordTab 2) := heap_alloc_new wr _
          have d4 := hD.X.cell 4 x4
          clear hC
          go_wp2
          generalize hmb : wr.heap.size = mb at *
          go_loopg [73] x.bad.length (fun g i wr => ∃ k : Nat, k + g = x.bad.length ∧ i = .int .i64 k ∧ LI w xc wr (hd ++ x.tent.map lTent ++ x.shared.map lShared ++ (x.bad.take k).map lBad) ∧ wr.heap[mb]? = some (.map wordTab 2))
          case atStart => exact ⟨0, by omega, rfl, by simpa using hD, hM⟩
          case round =>
            clear hD hM d4 dN hk hkk hge htk hmm hi1 hi2
            obtain ⟨k, hk, rfl, hC, hM⟩ := hrel
            have hk := Lib.hid hk
            rcases Nat.lt_or_ge k x.bad.length with hlt | hge
            · obtain ⟨b, o, rfl, a1, a2, a3, a4⟩ := hX.bad.at_ hlt
              have h1 := hC.ext.cell a1
              have h2 := hC.ext.cell a2
              have h3 := hC.ext.cell a3
              have h4 := hC.ext.cell a4
              obtain ⟨i1, i2, i3, i4⟩ := hX.bad.ok _ (List.getElem_mem hlt)
              have hm := Lib.hid (map_take lBad x.bad k hlt)
              generalize x.bad[k] = B at *
              have s1 := itoaB_size _ i1
              have s3 := itoaB_size _ i3
              have s4 := itoaB_size _ i4
              have s5 : (lUnit B.unit).size ≤ 40 := lUnit_size _ i2
              have q1 : ¬ 9223372036854775807 < 11 + (itoaB B.sector).size := by omega
              have q2 : ¬ 9223372036854775807 < 4 + (itoaB B.id).size := by omega
              have q3 : ¬ 9223372036854775807 < 4 + (itoaB B.id).size + (lUnit B.unit).size := by omega
              have q4 : ¬ 9223372036854775807 < 11 + (itoaB B.sector).size + (4 + (itoaB B.id).size + (lUnit B.unit).size) := by omega
              have q5 : ¬ 9223372036854775807 < 11 + (itoaB B.sector).size + 2 := by omega
              have q6 : ¬ 9223372036854775807 < 11 + (itoaB B.sector).size + (4 + (itoaB B.id).size + (lUnit B.unit).size) + 2 := by omega
              have q7 : ¬ 9223372036854775807 < 11 + (itoaB B.sector).size + 2 + 7 := by omega
              have q8 : ¬ 9223372036854775807 < 11 + (itoaB B.sector).size + (4 + (itoaB B.id).size + (lUnit B.unit).size) + 2 + 7 := by omega
              have q9 : ¬ 9223372036854775807 < 11 + (itoaB B.sector).size + 2 + 3 := by omega
              have qa : ¬ 9223372036854775807 < 11 + (itoaB B.sector).size + (4 + (itoaB B.id).size + (lUnit B.unit).size) + 2 + 3 := by omega
              have qb : ¬ 9223372036854775807 < 6 + (itoaB B.code).size := by omega
              have qc : ¬ 9223372036854775807 < 11 + (itoaB B.sector).size + 2 + (6 + (itoaB B.code).size) := by omega
              have qd : ¬ 9223372036854775807 < 11 + (itoaB B.sector).size + (4 + (itoaB B.id).size + (lUnit B.unit).size) + 2 + (6 + (itoaB B.code).size) := by omega
              have hw2 : ((∀ w : World, (binOp .neq 40 (.agg #[.int .i64 B.id, .int .i64 B.unit]) (.agg #[.int .i64 0, .int .i64 0])).run Tryz.prog w = .ok (.bool false) w) ∧ Hid (lWho B = ⟨#[]⟩)) ∨ ((∀ w : World, (binOp .neq 40 (.agg #[.int .i64 B.id, .int .i64 B.unit]) (.agg #[.int .i64 0, .int .i64 0])).run Tryz.prog w = .ok (.bool true) w) ∧ Hid (lWho B = bOf ++ itoaB B.id ++ lUnit B.unit)) := by
                unfold lWho Hid
                by_cases e : B.id = 0 ∧ B.unit = 0
                · exact .inl ⟨fun w => (neqR _ _ _ _ w).trans (by simp [e.1, e.2]), by simp [e]⟩
                · exact .inr ⟨fun w => (neqR _ _ _ _ w).trans (by rw [show (B.id == 0 && B.unit == 0) = false from by cases h1 : (B.id == 0) <;> cases h2 : (B.unit == 0) <;> first | rfl | exact absurd ⟨by simpa using h1, by simpa using h2⟩ e]; rfl), by simp [e]⟩
              have hc2 : ((∀ W : World, W.heap[mb]? = some (.map wordTab 2) → (Instr.lookup 92 (.map (some mb)) (.int .i64 B.code) true).run Tryz.prog W = .ok (.tuple #[.string ⟨#[100, 97, 109, 97, 103, 101, 100]⟩, .bool true]) W) ∧ Hid (lWord B.code = bDamaged)) ∨ ((∀ W : World, W.heap[mb]? = some (.map wordTab 2) → (Instr.lookup 92 (.map (some mb)) (.int .i64 B.code) true).run Tryz.prog W = .ok (.tuple #[.string ⟨#[111, 108, 100]⟩, .bool true]) W) ∧ Hid (lWord B.code = bOld)) ∨ ((∀ W : World, W.heap[mb]? = some (.map wordTab 2) → (Instr.lookup 92 (.map (some mb)) (.int .i64 B.code) true).run Tryz.prog W = .ok (.tuple #[.string ⟨#[]⟩, .bool false]) W) ∧ Hid (lWord B.code = bError ++ itoaB B.code)) := by
                unfold lWord Hid
                by_cases e1 : B.code = 11
                · exact .inl ⟨fun W h => by rw [e1]; exact look11 h, by simp [e1]⟩
                · by_cases e2 : B.code = 12
                  · exact .inr (.inl ⟨fun W h => by rw [e2]; exact look12 h, by simp [e2]⟩)
                  · exact .inr (.inr ⟨fun W h => lookNo h (by simp [e1]) (by simp [e2]), by simp [e1, e2]⟩)
              have hmn := Lib.hid hmn
              have hE := hC.mono ((Ext.refl _).alloc (.cells #[.int .i64 B.id, .int .i64 B.unit, .int .i64 B.sector, .int .i64 B.code] 61))
              have hM := (((Ext.refl wr).alloc (.cells #[.int .i64 B.id, .int .i64 B.unit, .int .i64 B.sector, .int .i64 B.code] 61)).block _ (heap_lt hM)).trans hM
              have hG := Blk.new wr 61 [.int .i64 B.id, .int .i64 B.unit, .int .i64 B.sector, .int .i64 B.code]
              have d4 := hC.X.cell 4 x4
              have dN := hE.N.cell 0 rfl
              clear hC
              rcases hw2 with ⟨hneq, hw⟩ | ⟨hneq, hw⟩
              · rcases hc2 with ⟨hlk, hc⟩ | ⟨hlk, hc⟩ | ⟨hlk, hc⟩
                all_goals
                  go_wp2_with (first | (go_at_call 56; refine (p_itoa _ ?_ _ hE.tab).mono ?_; (first | exact i1 | exact i3 | exact i4); rintro e w1 ⟨rfl, eB⟩; have hE := hE.mono eB; have hM := (eB.block _ (heap_lt hM)).trans hM; have hG := hG.ext eB; have dN := hE.N.cell 0 rfl; have g0 := hG.cell 0 rfl; have g1 := hG.cell 1 rfl; have g2 := hG.cell 2 rfl; have g3 := hG.cell 3 rfl) | (go_at_call 58; refine (p_addL w xc _ _ (by simp [hlen.out]; omega) _ hE).mono ?_; rintro e w1 ⟨rfl, hE, hkp⟩; have hM := hkp _ _ hM hmn.out (by intro cs fr hc; cases hc)) | (at_lookup; refine wpList_look rfl _ _ _ _ rfl rfl rfl (hlk _ hM) ?_))
                  go_roundg (x.bad.length - k - 1)
                  case measure => have := hk.out; omega
                  case rel => exact ⟨k + 1, by omega, by go_num, by
                    rw [hm.out, ← List.append_assoc]
                    exact hE.str (by unfold lBad; rw [hw.out, hc.out]; simp only [app_nil, ByteArray.append_assoc]; rfl), hM⟩
              · rcases hc2 with ⟨hlk, hc⟩ | ⟨hlk, hc⟩ | ⟨hlk, hc⟩
                all_goals
                  go_wp2_with (first | (go_at_call 56; refine (p_itoa _ ?_ _ hE.tab).mono ?_; (first | exact i1 | exact i3 | exact i4); rintro e w1 ⟨rfl, eB⟩; have hE := hE.mono eB; have hM := (eB.block _ (heap_lt hM)).trans hM; have hG := hG.ext eB; have dN := hE.N.cell 0 rfl; have g0 := hG.cell 0 rfl; have g1 := hG.cell 1 rfl; have g2 := hG.cell 2 rfl; have g3 := hG.cell 3 rfl))
                  have hF := hE.mono (Ext.refl _).drew
                  have hH := hG.drew
                  have hN := ((Ext.refl _).drew.block _ (heap_lt hM)).trans hM
                  clear hE hG hM
                  go_region_held3 (fun w' => w'.cell? ⟨w.heap.size + 1 + 1, 0, none⟩ = some (.func (.func 56) #[] #[]) ∧ w'.cell? ⟨wr.heap.size, 0, none⟩ = some (.int .i64 B.id) ∧ w'.cell? ⟨wr.heap.size, 1, none⟩ = some (.int .i64 B.unit)) (first | go_keep | (go_split_ands; exact ⟨hF.N.cell 0 rfl, hH.cell 0 rfl, hH.cell 1 rfl⟩)) (first | (go_at_call 56; refine (p_itoa _ i1 _ hF.tab).mono ?_; rintro e w1 ⟨rfl, eB⟩; have hF := hF.mono eB; have hN := (eB.block _ (heap_lt hN)).trans hN; have hH := hH.ext eB) | (go_at_call 57; refine (p_unit _ i2 _ _ (hF.N.cell 0 rfl) hF.tab).mono ?_; rintro e w1 ⟨rfl, eB⟩; have hF := hF.mono eB; have hN := (eB.block _ (heap_lt hN)).trans hN; have hH := hH.ext eB))
                  have g2 := hH.cell 2 rfl
                  have g3 := hH.cell 3 rfl
                  have f1 := hF.N.cell 0 rfl
                  go_wp2_with (first | (go_at_call 56; refine (p_itoa _ ?_ _ hF.tab).mono ?_; (first | exact i1 | exact i3 | exact i4); rintro e w1 ⟨rfl, eB⟩; have hF := hF.mono eB; have hN := (eB.block _ (heap_lt hN)).trans hN; have hH := hH.ext eB; have dN := hF.N.cell 0 rfl; have g0 := hH.cell 0 rfl; have g1 := hH.cell 1 rfl; have g2 := hH.cell 2 rfl; have g3 := hH.cell 3 rfl) | (go_at_call 58; refine (p_addL w xc _ _ (by simp [hlen.out]; omega) _ hF).mono ?_; rintro e w1 ⟨rfl, hF, hkp⟩; have hN := hkp _ _ hN hmn.out (by intro cs fr hc; cases hc)) | (at_lookup; refine wpList_look rfl _ _ _ _ rfl rfl rfl (hlk _ hN) ?_))
                  go_roundg (x.bad.length - k - 1)
                  case measure => have := hk.out; omega
                  case rel => exact ⟨k + 1, by omega, by go_num, by
                    rw [hm.out, ← List.append_assoc]
                    exact hF.str (by unfold lBad; rw [hw.out, hc.out]; simp only [ByteArray.append_assoc]; rfl), hN⟩
            · have hkk : k = x.bad.length := by have := hk.out; omega
              have htk : x.bad.take k = x.bad := List.take_of_length_le hge
              rw [htk] at hC
              obtain ⟨v, hB, hO⟩ := hC.O
              obtain ⟨C, cc, rfl, _⟩ := own_slice hO
              have c0 := hB.cell 0 rfl
              have hL : linesS x = hd ++ x.tent.map lTent ++ x.shared.map lShared ++ x.bad.map lBad := by rw [hhd.out]; rfl
              have hn : (linesS x).length = 2 + x.tent.length + x.shared.length + x.bad.length := by rw [hL]; simp [hlen.out]; omega
              have hn := Lib.hid hn
              have d4 := hC.X.cell 4 x4
              rw [← hL] at hO hB c0
              have hL := Lib.hid hL
              go_wp2
              go_ret
              exact ⟨C, cc, by rw [hn.out]; simp only [Nat.add_assoc]; rfl, ⟨Sl.own hO, by rw [hn.out]; omega⟩, hC.ext⟩
end Go.Proofs.YtjdmgpefjehkaaaGreatDoor
