/- The contracts of package dasdref05 that read, or make lists of numbers: holds, clip, Sequence, In, Ints, Same, Index. -/
import Derived.Test.YtjdmgpefjehkaaaGreatDoorProg
import Derived.Test.YtjdmgpefjehkaaaGreatDoorBase
namespace Go.Proofs.YtjdmgpefjehkaaaGreatDoor
open Go.RowKit
attribute [local go_sem] Instr.field asAgg
set_option maxRecDepth 100000

theorem int_info : (Tryz.prog.info? 3).map (fun i => (i.zero, i.size, i.bytes)) = some (some (.int .i64 0), 1, 8) := by kernel_rfl

theorem r_holds (r : Run) (hr : r.ok) (t : Int) (h0 : 0 ≤ t) (h1 : t < 128) (w : World) :
    Calls Tryz.prog 90 #[.agg #[.int .i64 r.f, .int .i64 r.c], .int .i64 t] w fun e w' => e = .returned (.bool (has r t)) ∧ Ext w w' := by
  have hm := Lib.hid (clip_mem r t h0 h1)
  obtain ⟨f, c⟩ := r
  obtain ⟨⟨f1, f2⟩, c1, c2⟩ := hr
  dsimp only at f1 f2 c1 c2
  have hh : has ⟨f, c⟩ t = decide (1 ≤ c ∧ f ≤ t ∧ t < f + c) := by
    unfold has
    rw [← Bool.decide_and, decide_eq_decide]
    exact hm.out
  rw [hh]
  have key := Lib.hid hh
  clear hh
  by_cases hf : f < 0
  · by_cases hc : 1 ≤ c
    · go_enter Tryz.func90, Tryz.ntmps90
      go_wp2
      go_ret
      exact ⟨by simp; omega, (Ext.refl _).alloc _⟩
    · go_enter Tryz.func90, Tryz.ntmps90
      go_wp2
      go_ret
      exact ⟨by simp; omega, (Ext.refl _).alloc _⟩
  · by_cases hc : 1 ≤ c
    · by_cases hl : f ≤ t
      · go_enter Tryz.func90, Tryz.ntmps90
        go_wp2
        go_ret
        exact ⟨by simp; omega, (Ext.refl _).alloc _⟩
      · go_enter Tryz.func90, Tryz.ntmps90
        go_wp2
        go_ret
        exact ⟨by simp; omega, (Ext.refl _).alloc _⟩
    · go_enter Tryz.func90, Tryz.ntmps90
      go_wp2
      go_ret
      exact ⟨by simp; omega, (Ext.refl _).alloc _⟩

/-- What clip has gathered of the tracks below t. -/
def clipTo (r : Run) (t : Int) : Run := if (clip r).c = 0 ∨ t ≤ (clip r).f then ⟨0, 0⟩ else ⟨(clip r).f, min t ((clip r).f + (clip r).c) - (clip r).f⟩

theorem clipTo_0 (r : Run) : clipTo r 0 = ⟨0, 0⟩ := by
  have := clip_bd r
  unfold clipTo
  split
  · rfl
  · exfalso; omega
theorem clipTo_128 (r : Run) : clipTo r 128 = clip r := by
  have hb := clip_bd r
  have hz := clip_zero r
  unfold clipTo
  split
  · have h0 : (clip r).c = 0 := by omega
    have h1 := hz h0
    cases hc : clip r
    rw [hc] at h0 h1
    dsimp only at h0 h1
    subst h0 h1
    rfl
  · cases hc : clip r
    rw [hc] at hb
    simp only [Run.mk.injEq, true_and]
    dsimp only at hb
    omega
theorem clipTo_no (r : Run) (t : Int) (h : has r t = false) : clipTo r (t + 1) = clipTo r t := by
  have hb := clip_bd r
  simp only [has, Bool.and_eq_false_iff, decide_eq_false_iff_not] at h
  unfold clipTo
  by_cases h1 : (clip r).c = 0 ∨ t ≤ (clip r).f
  · rw [if_pos h1, if_pos (by omega)]
  · rw [if_neg h1, if_neg (by omega)]
    simp only [Run.mk.injEq, true_and]
    omega
theorem clipTo_first (r : Run) (t : Int) (h : has r t = true) (hc : (clipTo r t).c = 0) : clipTo r (t + 1) = ⟨t, 1⟩ := by
  have hb := clip_bd r
  simp only [has, Bool.and_eq_true, decide_eq_true_eq] at h
  unfold clipTo at *
  by_cases h1 : (clip r).c = 0 ∨ t ≤ (clip r).f
  · rw [if_neg (by omega)]
    simp only [Run.mk.injEq]
    omega
  · rw [if_neg h1] at hc
    dsimp only at hc
    omega
theorem clipTo_next (r : Run) (t : Int) (h : has r t = true) (hc : ¬ (clipTo r t).c = 0) : clipTo r (t + 1) = ⟨(clipTo r t).f, (clipTo r t).c + 1⟩ := by
  have hb := clip_bd r
  simp only [has, Bool.and_eq_true, decide_eq_true_eq] at h
  unfold clipTo at *
  by_cases h1 : (clip r).c = 0 ∨ t ≤ (clip r).f
  · rw [if_pos h1] at hc; exact absurd rfl hc
  · rw [if_neg (by omega), if_neg h1]
    simp only [Run.mk.injEq, true_and]
    omega
theorem clipTo_bd (r : Run) (t : Int) : 0 ≤ (clipTo r t).c ∧ (clipTo r t).c ≤ 128 := by
  have hb := clip_bd r
  unfold clipTo
  split
  · exact ⟨by decide, by decide⟩
  · dsimp only; omega

theorem r_clip (r : Run) (hr : r.ok) (w : World) :
    Calls Tryz.prog 63 #[.agg #[.int .i64 r.f, .int .i64 r.c]] w fun e w' => e = .returned (.agg #[.int .i64 (clip r).f, .int .i64 (clip r).c]) ∧ Ext w w' := by
  have hu := Tryz.underlying68
  go_enter Tryz.func63, Tryz.ntmps63
  go_wp2
  go_loopg [4] 128 (fun g u wr => ∃ t : Int, t + g = 128 ∧ 0 ≤ t ∧ u = .int .i64 t ∧ Blk wr w.heap.size 68 [.int .i64 r.f, .int .i64 r.c] ∧ Blk wr (w.heap.size + 1) 68 [.int .i64 0, .int .i64 0] ∧ Blk wr (w.heap.size + 1 + 1) 68 [.int .i64 (clipTo r t).f, .int .i64 (clipTo r t).c] ∧ Ext w wr)
  case atStart => exact ⟨0, by omega, by omega, rfl, ((Blk.new w _ _).alloc _).alloc _, (Blk.new_at (by simp) _ [_, _]).alloc _, by rw [clipTo_0]; exact Blk.new_at (by simp) _ [_, _], (((Ext.refl w).alloc _).alloc _).alloc _⟩
  case round =>
    obtain ⟨t, hk, h0, rfl, hB1, hB2, hB3, hx⟩ := hrel
    have hk := Lib.hid hk
    have a0 := hB1.cell 0 rfl
    have a1 := hB1.cell 1 rfl
    by_cases hlt : t < 128
    · go_wp2_with fail
      refine (r_holds r hr t h0 hlt _).mono ?_
      rintro e w1 ⟨rfl, hx1⟩
      have hx2 := hx.trans hx1
      have hB1' := hB1.ext hx1
      have hB2' := hB2.ext hx1
      have hB3' := hB3.ext hx1
      have c0 := hB3'.cell 0 rfl
      have c1 := hB3'.cell 1 rfl
      have z0 := hB3'.frozen 0
      have z1 := hB3'.frozen 1
      have hb := clipTo_bd r t
      cases hh : has r t with
      | false =>
        have hn := Lib.hid (clipTo_no r t hh)
        go_wp2
        go_roundg (127 - t).toNat
        case measure => have := hk.out; omega
        case rel => exact ⟨t + 1, by omega, by omega, by go_num, hB1', hB2', by rw [hn.out]; exact hB3', hx2⟩
      | true =>
        by_cases hc : (clipTo r t).c = 0
        · have hn := Lib.hid (clipTo_first r t hh hc)
          have hq : ((clipTo r t).c == 0) = true := by simp [hc]
          have hcc := Lib.hid hc
          clear hc
          go_wp2
          go_roundg (127 - t).toNat
          case measure => have := hk.out; omega
          case rel => exact ⟨t + 1, by omega, by omega, by go_num, (hB1'.far (by dsimp only; omega) _).far (by dsimp only; omega) _, (hB2'.far (by dsimp only; omega) _).far (by dsimp only; omega) _, by rw [hn.out]; have := (hB3'.set 0 (.int .i64 t)).set 1 (.int .i64 1); simpa [hcc.out] using this, by repeat (first | exact hx2 | refine Ext.set ?_ (by dsimp only; omega) _)⟩
        · have hn := Lib.hid (clipTo_next r t hh hc)
          have hq : ((clipTo r t).c == 0) = false := by simp [hc]
          go_wp2
          go_roundg (127 - t).toNat
          case measure => have := hk.out; omega
          case rel => exact ⟨t + 1, by omega, by omega, by go_num, hB1'.far (by dsimp only; omega) _, hB2'.far (by dsimp only; omega) _, by rw [hn.out]; exact hB3'.set 1 _, by repeat (first | exact hx2 | refine Ext.set ?_ (by dsimp only; omega) _)⟩
    · obtain rfl : t = 128 := by have := hk.out; omega
      rw [clipTo_128] at hB3
      have c0 := hB3.cell 0 rfl
      have c1 := hB3.cell 1 rfl
      have d0 := hB2.cell 0 rfl
      have d1 := hB2.cell 1 rfl
      have z0 := hB2.frozen 0
      have z1 := hB2.frozen 1
      go_wp2
      have hB := (hB2.set 0 (.int .i64 (clip r).f)).set 1 (.int .i64 (clip r).c)
      exact bodyPost_ret (by have e0 := hB.cell 0 rfl; have e1 := hB.cell 1 rfl; simp [results, Tryz.results63, go_sem, e0, e1]) rfl ⟨rfl, (hx.set (by dsimp only; omega) _).set (by dsimp only; omega) _⟩

theorem r_in (A : Option Addr) (cap : Nat) (rs : List Run) (t : Int) (ht : I64 t) (w : World) (hA : Runs w A rs) :
    Calls Tryz.prog 132 #[.slice A rs.length cap, .int .i64 t] w fun e w' => e = .returned (.bool (ixT rs t).isSome) ∧ Ext w w' := by
  have hl := hA.len
  have hu := Tryz.underlying68
  obtain ⟨t1, t2⟩ := ht
  go_enter Tryz.func132, Tryz.ntmps132
  go_wp2
  go_loopg [5] rs.length (fun g i wr => ∃ k : Nat, k + g = rs.length ∧ i = .int .i64 k ∧ Hid (ixT (rs.take k) t = none) ∧ Ext w wr)
  case atStart => exact ⟨0, by omega, rfl, rfl, Ext.refl _⟩
  case round =>
    obtain ⟨k, hk, rfl, hn, hx⟩ := hrel
    have hk := Lib.hid hk
    rcases Nat.lt_or_ge k rs.length with hlt | hge
    · obtain ⟨b, o, rfl, h1, h2⟩ := (hA.ext hx).at_ hlt
      obtain ⟨hb1, hb2, hb3⟩ := clip_bd rs[k]
      have ht := Lib.hid (ixT_take rs t k hlt)
      go_wp2_with fail
      refine (r_clip rs[k] (hA.okAt hlt) _).mono ?_
      rintro e w1 ⟨rfl, hx1⟩
      have hx2 := hx.trans hx1
      go_wp2
      · go_ret
        rename_i q1 q2
        have hh : has rs[k] t = true := by simp [has, q1, q2]
        have he := ht.out
        rw [hn.out, if_pos hh] at he
        rw [ixT_prefix rs t _ he]
        exact ⟨rfl, hx2.alloc _⟩
      all_goals
        have hh : has rs[k] t = false := by simp [has]; omega
        have he := ht.out
        rw [hn.out, hh] at he
        go_roundg (rs.length - k - 1)
        case measure => have := hk.out; omega
        case rel => exact ⟨k + 1, by omega, by go_num, he, hx2.alloc _⟩
    · go_wp2
      go_ret
      have : rs.take k = rs := List.take_of_length_le hge
      have h := hn.out
      rw [this] at h
      exact ⟨by rw [h]; rfl, hx⟩

theorem seqR_get (r : Run) (j : Nat) (h : (j : Int) < (clip r).c) : (seqR r).take (j + 1) = (seqR r).take j ++ [(clip r).f + j] := by
  have hl : j < (seqR r).length := by have := seqR_len r; omega
  rw [List.take_succ_eq_append_getElem hl]
  simp [seqR]
theorem seqR_bd (r : Run) (x : Int) (h : x ∈ seqR r) : 0 ≤ x ∧ x < 128 := by
  have hb := clip_bd r
  rw [mem_seqR] at h
  simp only [has, Bool.and_eq_true, decide_eq_true_eq] at h
  omega
theorem seq_bd (rs : List Run) (x : Int) (h : x ∈ seq rs) : 0 ≤ x ∧ x < 128 := by
  obtain ⟨r, _, hr⟩ := List.mem_flatMap.1 h
  exact seqR_bd r x hr
theorem seq_part (rs : List Run) (k j : Nat) (h : k < rs.length) : ((seq (rs.take k) ++ (seqR rs[k]).take j).length : Int) ≤ 128 * (k + 1) := by
  have h1 := seq_le (rs.take k)
  have h2 := seqR_len rs[k]
  have h3 := clip_bd rs[k]
  have h4 : (rs.take k).length ≤ k := List.length_take_le _ _
  have h5 : ((seqR rs[k]).take j).length ≤ (seqR rs[k]).length := List.length_take_le' _ _
  rw [List.length_append]
  omega

theorem r_seq (A : Option Addr) (cap : Nat) (rs : List Run) (w : World) (hs : (rs.length : Int) ≤ 4294967296) (hA : Runs w A rs) :
    Calls Tryz.prog 38 #[.slice A rs.length cap] w fun e w' => ∃ B c, e = .returned (.slice B (seq rs).length c) ∧ Ints w' B (seq rs) ∧ Ext w w' := by
  have hu := Tryz.underlying68
  go_enter Tryz.func38, Tryz.ntmps38
  go_wp2
  go_loopg [3, 4] rs.length (fun g v i wr => ∃ k : Nat, k + g = rs.length ∧ i = .int .i64 k ∧ wr.ownsRow w.heap.size 3 1 v (seq (rs.take k)).length (intCells (seq (rs.take k))) ∧ Ext w wr)
  case atStart => exact ⟨0, by omega, rfl, own_new w _ _ _ (Nat.le_refl _), (Ext.refl w).alloc _⟩
  case round =>
    obtain ⟨k, hk, rfl, ho, hx⟩ := hrel
    have hk := Lib.hid hk
    obtain ⟨wo, rfl⟩ : ∃ wo : World, wo = wr := ⟨_, rfl⟩
    rcases Nat.lt_or_ge k rs.length with hlt | hge
    · obtain ⟨b, o, rfl, h1, h2⟩ := (hA.ext hx).at_ hlt
      obtain ⟨hb1, hb2, hb3⟩ := clip_bd rs[k]
      go_wp2_with fail
      refine (r_clip rs[k] (hA.okAt hlt) _).mono ?_
      rintro e w1 ⟨rfl, hx1⟩
      have hx2 := hx.trans hx1
      have hle := hx2.le
      have ho1 := ho.kept (row := none) ⟨hx1.os, hx1.tape, hx1.output, hx1.size, fun i hi _ => hx1.block i hi⟩ (by cases Value.ownBlock u3 <;> simp)
      go_wp2
      go_loopg [3, 6] (clip rs[k]).c.toNat (fun g v i wr => ∃ j : Nat, j + g = (clip rs[k]).c.toNat ∧ i = .int .i64 j ∧ wr.ownsRow w.heap.size 3 1 v (seq (rs.take k) ++ (seqR rs[k]).take j).length (intCells (seq (rs.take k) ++ (seqR rs[k]).take j)) ∧ Blk wr w1.heap.size 68 [.int .i64 (clip rs[k]).f, .int .i64 (clip rs[k]).c] ∧ Ext w wr)
      case atStart => exact ⟨0, by omega, rfl, by simpa using ho1.alloc _, Blk.new w1 _ [_, _], hx2.alloc _⟩
      case round =>
        obtain ⟨j, hj, rfl, ho2, hB, hx3⟩ := hrel
        have hj := Lib.hid hj
        have c0 := hB.cell 0 rfl
        have c1 := hB.cell 1 rfl
        rcases Nat.lt_or_ge j (clip rs[k]).c.toNat with hjl | hjg
        · have hjc : (j : Int) < (clip rs[k]).c := by omega
          have hpart := seq_part rs k j hlt
          have hk3 : (k : Int) + 1 ≤ rs.length := by omega
          have hsg := Lib.hid (seqR_get rs[k] j hjc)
          go_wp2_with (at_builtin; refine app1 w.heap.size rfl _ _ _ 3 (.int .i64 0) 1 8 rfl Tryz.underlying26 int_info rfl (by omega) (by omega) u3 _ _ [.int .i64 ((clip rs[k]).f + j)] rfl (by simp [Value.oneCell']) rfl rfl ho2 hx3.le (by omega) ?_; intro v1 w2 ho3 hg)
          go_roundg ((clip rs[k]).c.toNat - j - 1)
          case measure => have := hj.out; omega
          case rel => exact ⟨j + 1, by omega, by go_num, by rw [hsg.out, ← List.append_assoc, ← intCells_snoc, List.length_append (bs := [_])]; exact ho3, hB.grown hg (own_far ho2 hB (by decide)), hx3.own ho2 hg⟩
        · go_wp2
          go_roundg (rs.length - k - 1)
          case measure => have := hk.out; omega
          case rel =>
            have : (seqR rs[k]).take j = seqR rs[k] := List.take_of_length_le (by have := seqR_len rs[k]; omega)
            rw [this] at ho2
            exact ⟨k + 1, by omega, by go_num, by rw [seq_take rs k hlt]; exact ho2, hx3⟩
    · have : rs.take k = rs := List.take_of_length_le hge
      rw [this] at ho
      obtain ⟨B, c, rfl, _⟩ := own_slice ho
      go_wp2
      go_ret
      exact ⟨B, c, rfl, Ints.own ho (fun x hx => by have := seq_bd rs x hx; exact ⟨by omega, by omega⟩) (by have := seq_le rs; omega), hx⟩
end Go.Proofs.YtjdmgpefjehkaaaGreatDoor
