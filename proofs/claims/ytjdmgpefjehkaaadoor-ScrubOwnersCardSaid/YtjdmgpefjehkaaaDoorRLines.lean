/- dasdref15.Lines returns the report. -/
import Derived.Test.YtjdmgpefjehkaaaDoorStrs
import Derived.Deep.RegionHeld3
namespace Go.Proofs.YtjdmgpefjehkaaaDoor
open Go.RowKit
attribute [local go_sem] Instr.field asAgg
set_option maxRecDepth 100000

structure ScrubOk (w : World) (x : Scrub) (A2 A3 A4 : Option Addr) : Prop where
  free : I64 x.free
  used : I64 x.used
  tent : Refs w A2 x.tent
  shared : Ints w A3 x.shared
  bad : Bads w A4 x.bad
theorem ScrubOk.ext {w w' : World} {x : Scrub} {A2 A3 A4 : Option Addr} (h : ScrubOk w x A2 A3 A4) (k : Ext w w') : ScrubOk w' x A2 A3 A4 := ⟨h.free, h.used, h.tent.ext k, h.shared.ext k, h.bad.ext k⟩

theorem map_take {α β : Type} (f : α → β) (l : List α) (k : Nat) (h : k < l.length) : (l.take (k + 1)).map f = (l.take k).map f ++ [f l[k]] := by
  rw [List.take_succ_eq_append_getElem h, List.map_append]; rfl
theorem own_ext {w w' : World} {base : Nat} {e : TypeId} {size n : Nat} {v : Value} {xs : List Value} (h : w.ownsRow base e size v n xs) (k : Ext w w') : w'.ownsRow base e size v n xs :=
  h.kept (row := none) ⟨k.os, k.tape, k.output, k.size, fun i hi _ => k.block i hi⟩ (by cases v.ownBlock <;> simp)

theorem neqR (a b c d : Int) (w : World) : (binOp .neq 37 (.agg #[.int .i64 a, .int .i64 b]) (.agg #[.int .i64 c, .int .i64 d])).run Tryd.prog w = .ok (.bool (!(a == c && b == d))) w := by
  have hu := Tryd.underlying37
  simp [go_sem, Op.eqFields, hu, Program.fieldsOf]
  cases h : (a == c) <;> cases h2 : (b == d) <;> simp_all

theorem cutD : (⟨#[58, 32, 100, 97, 109, 97, 103, 101, 100]⟩ : ByteArray) = bColon ++ bDamaged := (mk_append [58, 32] [100, 97, 109, 97, 103, 101, 100]).symm
theorem cutO : (⟨#[58, 32, 111, 108, 100]⟩ : ByteArray) = bColon ++ bOld := (mk_append [58, 32] [111, 108, 100]).symm
theorem cutE : (⟨#[58, 32, 101, 114, 114, 111, 114, 32]⟩ : ByteArray) = bColon ++ bError := (mk_append [58, 32] [101, 114, 114, 111, 114, 32]).symm
theorem nil_app (a : ByteArray) : (⟨#[]⟩ : ByteArray) ++ a = a := by
  apply ByteArray.ext
  rw [ByteArray.data_append]
  simp
theorem app_nil (a : ByteArray) : a ++ (⟨#[]⟩ : ByteArray) = a := by
  apply ByteArray.ext
  rw [ByteArray.data_append]
  simp
theorem own_str {W : World} {base : Nat} {v : Value} {n : Nat} {xs : List Value} {S S' : ByteArray} (h : W.ownsRow base 9 1 v n (xs ++ [.string S])) (hS : S = S') : W.ownsRow base 9 1 v n (xs ++ [.string S']) := hS ▸ h

set_option maxHeartbeats 4000000 in
theorem r_Lines (x : Scrub) (A2 A3 A4 : Option Addr) (c2 c3 c4 : Nat) (hsm : (x.tent.length : Int) + x.shared.length + x.bad.length ≤ 1000000) (w : World) (hX : ScrubOk w x A2 A3 A4) :
    Calls Tryd.prog 9 #[.agg #[.int .i64 x.free, .int .i64 x.used, .slice A2 x.tent.length c2, .slice A3 x.shared.length c3, .slice A4 x.bad.length c4]] w fun e w' =>
      ∃ B cb, e = .returned (.slice B (linesS x).length cb) ∧ Strs w' B (linesS x) ∧ Ext w w' := by
  have hu := Tryd.underlying26
  have hu2 := Tryd.underlying37
  have hf := hX.free
  have hs := hX.used
  have s1 := itoaB_size _ hf
  have s2 := itoaB_size _ hs
  have q1 : ¬ 9223372036854775807 < 5 + (itoaB x.free).size := by omega
  have q2 : ¬ 9223372036854775807 < 5 + (itoaB x.used).size := by omega
  go_enter Tryd.func9, Tryd.ntmps9
  go_wp2_with fail
  have hx := ((Ext.refl w).alloc (.cells #[.int .i64 x.free, .int .i64 x.used, .slice A2 x.tent.length c2, .slice A3 x.shared.length c3, .slice A4 x.bad.length c4] 26)).drew
  have hT := (Blk.new w 26 [.int .i64 x.free, .int .i64 x.used, .slice A2 x.tent.length c2, .slice A3 x.shared.length c3, .slice A4 x.bad.length c4]).drew
  go_region_held3 (fun w' => w'.cell? ⟨w.heap.size, 0, none⟩ = some (.int .i64 x.free) ∧ w'.cell? ⟨w.heap.size, 1, none⟩ = some (.int .i64 x.used)) (first | go_keep | (go_split_ands; exact ⟨hx1.cell (by assumption), hx1.cell (by assumption)⟩)) (first | (go_at_call 22; refine (r_Decimal _ ?_ _).mono ?_; (first | exact hf | exact hs); rintro e w1 ⟨rfl, hx1⟩; have hx := hx.trans hx1; have hT := hT.ext hx1))
  go_wp2_with fail
  have ho := World.ownsRow_lit (base := w.heap.size) (e := 9) (size := 1) w1 #[.string (bFree ++ itoaB x.free), .string (bUsed ++ itoaB x.used)] 2 hx.le (by simp [maxLen]) rfl
  have hT := hT.alloc (.cells #[.string (bFree ++ itoaB x.free), .string (bUsed ++ itoaB x.used)] 9)
  have hx := hx.alloc (.cells #[.string (bFree ++ itoaB x.free), .string (bUsed ++ itoaB x.used)] 9)
  clear q1 q2 s1 s2 hf hs
  generalize hhd : ([bFree ++ itoaB x.free, bUsed ++ itoaB x.used] : List ByteArray) = hd
  have ho : (w1.alloc (.cells #[.string (bFree ++ itoaB x.free), .string (bUsed ++ itoaB x.used)] 9)).ownsRow w.heap.size 9 1 (.slice (some ⟨w1.heap.size, 0, none⟩) 2 2) (2 + 0) (strCells (hd ++ (x.tent.take 0).map lTent)) := by
    rw [← hhd]; exact ho
  have hhd := Lib.hid hhd
  have hlen : hd.length = 2 := by rw [← hhd.out]; rfl
  have hlen := Lib.hid hlen
  go_loopg [3, 4] x.tent.length (fun g v i wr => ∃ k : Nat, k + g = x.tent.length ∧ i = .int .i64 k ∧ wr.ownsRow w.heap.size 9 1 v (2 + k) (strCells (hd ++ (x.tent.take k).map lTent)) ∧ Blk wr w.heap.size 26 [.int .i64 x.free, .int .i64 x.used, .slice A2 x.tent.length c2, .slice A3 x.shared.length c3, .slice A4 x.bad.length c4] ∧ Ext w wr)
  case atStart => exact ⟨0, by omega, rfl, ho, hT, hx⟩
  case round =>
    clear ho hT hx
    obtain ⟨k, hk, rfl, oA, tA, eA⟩ := hrel
    have hk := Lib.hid hk
    have d2 := tA.cell 2 rfl
    have d3 := tA.cell 3 rfl
    rcases Nat.lt_or_ge k x.tent.length with hlt | hge
    · obtain ⟨b, o, rfl, a1, a2⟩ := hX.tent.at_ hlt
      have h1 := eA.cell a1
      have h2 := eA.cell a2
      have i0 : (0 : Int) ≤ k := by omega
      have i1 : (k : Int) < x.tent.length := by omega
      obtain ⟨i2, i3⟩ := hX.tent.ok _ (List.getElem_mem hlt)
      have s1 := itoaB_size _ i2
      have s2 := itoaB_size _ i3
      have q1 : ¬ 9223372036854775807 < 10 + (itoaB x.tent[k].id).size := by omega
      have q2 : ¬ 9223372036854775807 < 10 + (itoaB x.tent[k].id).size + 9 := by omega
      have q3 : ¬ 9223372036854775807 < 10 + (itoaB x.tent[k].id).size + 9 + (itoaB x.tent[k].unit).size := by omega
      have hm := Lib.hid (map_take lTent x.tent k hlt)
      go_wp2_with fail
      have eA := eA.drew
      have oA := own_ext oA (Ext.drew (Ext.refl _))
      have tA := tA.drew
      go_region_held3 (fun w' => w'.cell? ⟨w.heap.size, 2, none⟩ = some (.slice (some ⟨b, o, none⟩) x.tent.length c2) ∧ w'.cell? ⟨b, o + k * 2, none⟩ = some (.int .i64 x.tent[k].id) ∧ w'.cell? ⟨b, o + k * 2 + 1, none⟩ = some (.int .i64 x.tent[k].unit)) (first | go_keep | (go_split_ands; exact ⟨tA.cell 2 rfl, eA.cell a1, eA.cell a2⟩)) (first | (go_at_call 22; refine (r_Decimal _ ?_ _).mono ?_; (first | exact i2 | exact i3); rintro e w1 ⟨rfl, eB⟩; have eA := eA.trans eB; have tA := tA.ext eB; have oA := own_ext oA eB) | (refine step_app w.heap.size (by rfl) _ _ _ 9 (.string ⟨#[]⟩) 1 16 (by rfl) Tryd.underlying30 str_info (by rfl) (by omega) (by omega) u3 _ _ [.string (lTent x.tent[k])] (by rfl) (by simp [Value.oneCell']) (by rfl) _ (by rfl) (Blk.new _ _ [_]) (oA.alloc _) (by have := eA.le; simp; omega) (by omega) ?_; intro v1 w3 oB gA; have tA := (tA.alloc (.cells #[.string (lTent x.tent[k])] 9)).grown gA (own_far oA tA (by decide)); have eA := (eA.alloc (.cells #[.string (lTent x.tent[k])] 9)).own (oA.alloc _) gA))
      go_wp2
      go_roundg (x.tent.length - k - 1)
      case measure => have := hk.out; omega
      case rel => exact ⟨k + 1, by omega, by go_num, by rw [hm.out, ← List.append_assoc, ← strCells_snoc]; exact oB, tA, eA⟩
    · have hkk : k = x.tent.length := by have := hk.out; omega
      have htk : x.tent.take k = x.tent := List.take_of_length_le hge
      rw [htk, hkk] at oA
      go_wp2
      go_loopg [3, 5] x.shared.length (fun g v i wr => ∃ k : Nat, k + g = x.shared.length ∧ i = .int .i64 k ∧ wr.ownsRow w.heap.size 9 1 v (2 + x.tent.length + k) (strCells (hd ++ x.tent.map lTent ++ (x.shared.take k).map lShared)) ∧ Blk wr w.heap.size 26 [.int .i64 x.free, .int .i64 x.used, .slice A2 x.tent.length c2, .slice A3 x.shared.length c3, .slice A4 x.bad.length c4] ∧ Ext w wr)
      case atStart => exact ⟨0, by omega, rfl, by simpa using oA, tA, eA⟩
      case round =>
        clear oA tA eA d2 d3 hk hkk hge htk
        obtain ⟨k, hk, rfl, oA, tA, eA⟩ := hrel
        have hk := Lib.hid hk
        have d3 := tA.cell 3 rfl
        have d4 := tA.cell 4 rfl
        have dl := tA.lt
        rcases Nat.lt_or_ge k x.shared.length with hlt | hge
        · obtain ⟨b, o, rfl, a1⟩ := hX.shared.at_ hlt
          have h1 := eA.cell a1
          have i2 := hX.shared.okAt hlt
          have s1 := itoaB_size _ i2
          have q1 : ¬ 9223372036854775807 < 13 + (itoaB x.shared[k]).size := by omega
          have hm := Lib.hid (map_take lShared x.shared k hlt)
          go_wp2_with (first | (go_at_call 22; refine (r_Decimal _ ?_ _).mono ?_; exact i2; rintro e w1 ⟨rfl, eB⟩; have eA := eA.trans eB; have tA := tA.ext eB; have oA := own_ext oA eB) | (at_builtin; refine app2 w.heap.size rfl _ _ _ 9 (.string ⟨#[]⟩) 1 16 rfl Tryd.underlying30 str_info rfl (by omega) (by omega) u3 _ _ [.string (lShared x.shared[k])] rfl (by simp [Value.oneCell']) rfl _ rfl (by simp) oA eA.le (by omega) ?_; intro v1 w3 oB gA; have tA := tA.grown gA (own_far oA tA (by decide)); have eA := eA.own oA gA))
          go_roundg (x.shared.length - k - 1)
          case measure => have := hk.out; omega
          case rel => exact ⟨k + 1, by omega, by go_num, by rw [hm.out, ← List.append_assoc, ← strCells_snoc]; exact oB, tA, eA⟩
        · have hkk : k = x.shared.length := by have := hk.out; omega
          have htk : x.shared.take k = x.shared := List.take_of_length_le hge
          rw [htk, hkk] at oA
          go_wp2
          go_loopg [3, 6] x.bad.length (fun g v i wr => ∃ k : Nat, k + g = x.bad.length ∧ i = .int .i64 k ∧ wr.ownsRow w.heap.size 9 1 v (2 + x.tent.length + x.shared.length + k) (strCells (hd ++ x.tent.map lTent ++ x.shared.map lShared ++ (x.bad.take k).map lBad)) ∧ Blk wr w.heap.size 26 [.int .i64 x.free, .int .i64 x.used, .slice A2 x.tent.length c2, .slice A3 x.shared.length c3, .slice A4 x.bad.length c4] ∧ Ext w wr)
          case atStart => exact ⟨0, by omega, rfl, by simpa using oA, tA, eA⟩
          case round =>
            clear oA tA eA d3 d4 dl hk hkk hge htk
            obtain ⟨k, hk, rfl, oA, tA, eA⟩ := hrel
            have hk := Lib.hid hk
            have d4 := tA.cell 4 rfl
            have dl := tA.lt
            rcases Nat.lt_or_ge k x.bad.length with hlt | hge
            · obtain ⟨b, o, rfl, a1, a2, a3, a4⟩ := hX.bad.at_ hlt
              have h1 := eA.cell a1
              have h2 := eA.cell a2
              have h3 := eA.cell a3
              have h4 := eA.cell a4
              obtain ⟨i1, i2, i3, i4⟩ := hX.bad.ok _ (List.getElem_mem hlt)
              have hm := Lib.hid (map_take lBad x.bad k hlt)
              generalize x.bad[k] = B at *
              have s1 := itoaB_size _ i1
              have s2 := itoaB_size _ i2
              have s3 := itoaB_size _ i3
              have s4 := itoaB_size _ i4
              have q1 : ¬ 9223372036854775807 < 11 + (itoaB B.sector).size := by omega
              have q2 : ¬ 9223372036854775807 < 11 + (itoaB B.sector).size + 4 := by omega
              have q3 : ¬ 9223372036854775807 < 11 + (itoaB B.sector).size + 4 + (itoaB B.id).size := by omega
              have q4 : ¬ 9223372036854775807 < 11 + (itoaB B.sector).size + 4 + (itoaB B.id).size + 9 := by omega
              have q5 : ¬ 9223372036854775807 < 11 + (itoaB B.sector).size + 4 + (itoaB B.id).size + 9 + (itoaB B.unit).size := by omega
              have q6 : ¬ 9223372036854775807 < 11 + (itoaB B.sector).size + 9 := by omega
              have q7 : ¬ 9223372036854775807 < 11 + (itoaB B.sector).size + 5 := by omega
              have q8 : ¬ 9223372036854775807 < 11 + (itoaB B.sector).size + 8 := by omega
              have q9 : ¬ 9223372036854775807 < 11 + (itoaB B.sector).size + 8 + (itoaB B.code).size := by omega
              have qa : ¬ 9223372036854775807 < 11 + (itoaB B.sector).size + 4 + (itoaB B.id).size + 5 := by omega
              have qb : ¬ 9223372036854775807 < 11 + (itoaB B.sector).size + 4 + (itoaB B.id).size + 8 := by omega
              have qc : ¬ 9223372036854775807 < 11 + (itoaB B.sector).size + 4 + (itoaB B.id).size + 8 + (itoaB B.code).size := by omega
              have qd : ¬ 9223372036854775807 < 11 + (itoaB B.sector).size + 4 + (itoaB B.id).size + 9 + (itoaB B.unit).size + 9 := by omega
              have qe : ¬ 9223372036854775807 < 11 + (itoaB B.sector).size + 4 + (itoaB B.id).size + 9 + (itoaB B.unit).size + 5 := by omega
              have qf : ¬ 9223372036854775807 < 11 + (itoaB B.sector).size + 4 + (itoaB B.id).size + 9 + (itoaB B.unit).size + 8 := by omega
              have qg : ¬ 9223372036854775807 < 11 + (itoaB B.sector).size + 4 + (itoaB B.id).size + 9 + (itoaB B.unit).size + 8 + (itoaB B.code).size := by omega
              have hneq := neqR
              have hcode : (((B.code == 11) = true ∧ (B.code == 12) = false) ∧ Hid (lWord B.code = bDamaged)) ∨ (((B.code == 11) = false ∧ (B.code == 12) = true) ∧ Hid (lWord B.code = bOld)) ∨ (((B.code == 11) = false ∧ (B.code == 12) = false) ∧ Hid (lWord B.code = bError ++ itoaB B.code)) := by
                unfold lWord Hid
                by_cases e1 : B.code = 11
                · simp [e1]
                · by_cases e2 : B.code = 12
                  · simp [e2]
                  · simp [e1, e2]
              have hwho : (((B.id == 0) = true ∧ (B.unit == 0) = true ∧ (B.unit != 0) = false) ∧ Hid (lWho B = ⟨#[]⟩)) ∨ (((B.id == 0) = false ∧ (B.unit == 0) = true ∧ (B.unit != 0) = false) ∧ Hid (lWho B = bOf ++ itoaB B.id)) ∨ (((B.unit == 0) = false ∧ (B.unit != 0) = true) ∧ Hid (lWho B = bOf ++ itoaB B.id ++ (bOfUnit ++ itoaB B.unit))) := by
                unfold lWho lUnit Hid
                by_cases e1 : B.unit = 0
                · by_cases e2 : B.id = 0
                  · simp [e1, e2]
                  · simp [e1, e2, app_nil]
                · simp [e1]
              rcases hwho with ⟨⟨r1, r2, r3⟩, hw⟩ | ⟨⟨r1, r2, r3⟩, hw⟩ | ⟨⟨r2, r3⟩, hw⟩
              all_goals rcases hcode with ⟨⟨r5, r6⟩, hc⟩ | ⟨⟨r5, r6⟩, hc⟩ | ⟨⟨r5, r6⟩, hc⟩
              all_goals
                have eR := Ext.refl (wr.alloc (.cells #[.int .i64 B.id, .int .i64 B.unit, .int .i64 B.sector, .int .i64 B.code] 50))
                go_wp2_with (first | (go_at_call 22; refine (r_Decimal _ ?_ _).mono ?_; (first | exact i1 | exact i2 | exact i3 | exact i4); rintro e w1 ⟨rfl, eB⟩; have eR := eR.trans eB; have hG := (Blk.new wr 50 [.int .i64 B.id, .int .i64 B.unit, .int .i64 B.sector, .int .i64 B.code]).ext eR; have g0 := hG.cell 0 rfl; have g1 := hG.cell 1 rfl; have g2 := hG.cell 2 rfl; have g3 := hG.cell 3 rfl; clear hG) | (at_builtin; refine app2 w.heap.size rfl _ _ _ 9 (.string ⟨#[]⟩) 1 16 rfl Tryd.underlying30 str_info rfl (by omega) (by omega) u3 _ _ [.string _] rfl (by simp [Value.oneCell']) rfl _ rfl (by simp) (own_ext oA (((Ext.refl _).alloc _).trans eR)) ((eA.alloc _).trans eR).le (by omega) ?_; intro v1 w3 oB gA; have tA := (tA.ext (((Ext.refl _).alloc _).trans eR)).grown gA (own_far (own_ext oA (((Ext.refl _).alloc _).trans eR)) (tA.ext (((Ext.refl _).alloc _).trans eR)) (by decide)); have eA := ((eA.alloc _).trans eR).own (own_ext oA (((Ext.refl _).alloc _).trans eR)) gA))
                go_roundg (x.bad.length - k - 1)
                case measure => have := hk.out; omega
                case rel => exact ⟨k + 1, by omega, by go_num, by
                  rw [hm.out, ← List.append_assoc, ← strCells_snoc]
                  exact own_str oB (by unfold lBad; rw [hw.out, hc.out]; simp only [cutD, cutO, cutE, app_nil, ByteArray.append_assoc]; rfl), tA, eA⟩
            · have hkk : k = x.bad.length := by have := hk.out; omega
              have htk : x.bad.take k = x.bad := List.take_of_length_le hge
              rw [htk, hkk] at oA
              obtain ⟨C, cc, rfl, _⟩ := own_slice oA
              have hL : linesS x = hd ++ x.tent.map lTent ++ x.shared.map lShared ++ x.bad.map lBad := by rw [← hhd.out]; rfl
              have hn : (linesS x).length = 2 + x.tent.length + x.shared.length + x.bad.length := by rw [hL]; simp [hlen.out]; omega
              have hL := Lib.hid hL
              have hn := Lib.hid hn
              go_wp2
              go_ret
              exact ⟨C, cc, by rw [hn.out]; rfl, ⟨by rw [hL.out]; exact Sl.own oA, by rw [hn.out]; omega⟩, eA⟩
end Go.Proofs.YtjdmgpefjehkaaaDoor
