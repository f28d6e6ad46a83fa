/- The normal form of a set of tracks, as a fold over the tracks; no program in sight. The contracts of package dasdref05 that read, or make lists of numbers: holds, clip, Sequence, In, Ints, Same, Index. The contracts of package dasdref05 that compare: Ints, Same; Index and Disjoint over the sequence. The contracts of package dasdref05 that make runs: set, Set (a without b), Normal. -/
import Derived.Test.YtjdmgpefjehkaaaGreatDoorBase
import Derived.Test.YtjdmgpefjehkaaaGreatDoorProg
import Derived.Deep.QuietTactic
import Derived.BigQuiet
import Derived.Laws.StructEq
namespace Go.Proofs.YtjdmgpefjehkaaaGreatDoor
open Go.RowKit

def bumpLast : List Run → List Run
  | [] => []
  | [r] => [⟨r.f, r.c + 1⟩]
  | r :: s :: l => r :: bumpLast (s :: l)
theorem bumpLast_snoc (l : List Run) (r : Run) : bumpLast (l ++ [r]) = l ++ [⟨r.f, r.c + 1⟩] := by
  induction l with
  | nil => rfl
  | cons a l ih =>
    cases l with
    | nil => rfl
    | cons b l => rw [List.cons_append, List.cons_append, bumpLast, ← List.cons_append, ih]; rfl
theorem bumpLast_len (l : List Run) : (bumpLast l).length = l.length := by
  induction l with
  | nil => rfl
  | cons a l ih =>
    cases l with
    | nil => rfl
    | cons b l => rw [bumpLast]; simp [ih]
theorem snoc_of_ne {α : Type} {l : List α} (h : l ≠ []) : ∃ r x, l = r ++ [x] := ⟨l.dropLast, l.getLast h, (List.dropLast_concat_getLast h).symm⟩
theorem flat_len (l : List Run) : (l.flatMap runCells).length = l.length * 2 := flatMap_len runCells 2 runCells_len l
theorem set_cells (s : List Run) (r : Run) (x : Int) : ((s ++ [r]).flatMap runCells).set (s.length * 2 + 1) (.int .i64 x) = (s ++ [(⟨r.f, x⟩ : Run)]).flatMap runCells := by
  rw [List.flatMap_append, List.flatMap_append, List.set_append_right _ _ (by rw [flat_len]; omega), flat_len]
  have : s.length * 2 + 1 - s.length * 2 = 1 := by omega
  rw [this]
  rfl

/-- The normal form of the tracks below n that p holds of. -/
def normTo (p : Nat → Bool) : Nat → List Run
  | 0 => []
  | n + 1 => if p n = true then (if 0 < n ∧ p (n - 1) = true then bumpLast (normTo p n) else normTo p n ++ [⟨n, 1⟩]) else normTo p n
theorem normTo_last (p : Nat → Bool) : ∀ n, 0 < n → p (n - 1) = true → ∃ (s : List Run) (r : Run), normTo p n = s ++ [r] ∧ r.f + r.c = (n : Int)
  | n + 1, _, h => by
    have h' : p n = true := by simpa using h
    rw [normTo, if_pos h']
    by_cases hn : 0 < n ∧ p (n - 1) = true
    · obtain ⟨s, r, he, hr⟩ := normTo_last p n hn.1 hn.2
      rw [if_pos hn, he, bumpLast_snoc]
      exact ⟨s, _, rfl, by dsimp only; omega⟩
    · rw [if_neg hn]
      exact ⟨_, _, rfl, by dsimp only; omega⟩
/-- Its runs are in order, apart, and lie below n. -/
theorem normTo_bd (p : Nat → Bool) : ∀ n, ∀ r ∈ normTo p n, 0 ≤ r.f ∧ 1 ≤ r.c ∧ r.f + r.c ≤ n
  | 0, r, h => by simp [normTo] at h
  | n + 1, r, h => by
    rw [normTo] at h
    split at h
    · split at h
      · rename_i h1 h2
        obtain ⟨s, q, he, hq⟩ := normTo_last p n h2.1 h2.2
        rw [he, bumpLast_snoc] at h
        rcases List.mem_append.1 h with hm | hm
        · have := normTo_bd p n r (by rw [he]; exact List.mem_append_left _ hm); omega
        · have := normTo_bd p n q (by rw [he]; simp)
          obtain rfl := List.mem_singleton.1 hm
          dsimp only
          omega
      · rcases List.mem_append.1 h with hm | hm
        · have := normTo_bd p n r hm; omega
        · obtain rfl := List.mem_singleton.1 hm
          dsimp only
          omega
    · have := normTo_bd p n r h; omega
theorem normTo_len (p : Nat → Bool) : ∀ n, (normTo p n).length ≤ n
  | 0 => by simp [normTo]
  | n + 1 => by
    have := normTo_len p n
    rw [normTo]
    split
    · split
      · rw [bumpLast_len]; omega
      · simp; omega
    · omega
theorem normTo_ok (p : Nat → Bool) (n : Nat) (hn : n ≤ 1000000) : ∀ r ∈ normTo p n, r.ok := fun r hr => by
  have := normTo_bd p n r hr
  exact ⟨⟨by omega, by omega⟩, by omega, by omega⟩
theorem normTo_congr {p q : Nat → Bool} : ∀ n, (∀ i, i < n → p i = q i) → normTo p n = normTo q n
  | 0, _ => rfl
  | n + 1, h => by
    rw [normTo, normTo, normTo_congr n (fun i hi => h i (by omega)), h n (by omega)]
    by_cases hn : 0 < n
    · rw [h (n - 1) (by omega)]
    · simp [hn]
theorem clip_small (r : Run) (h0 : 0 ≤ r.f) (h1 : 1 ≤ r.c) (h2 : r.f + r.c ≤ 128) : clip r = r := by
  unfold clip
  rw [if_neg (by omega)]
  have : (if r.f < 0 ∨ r.c < 128 - r.f then min 128 (r.f + r.c) else 128) = r.f + r.c := by split <;> omega
  rw [this, if_neg (by omega)]
  cases r
  simp only [Run.mk.injEq] at *
  omega
theorem seq_normTo (p : Nat → Bool) : ∀ n, n ≤ 128 → seq (normTo p n) = ((List.range n).filter p).map (fun i : Nat => (i : Int))
  | 0, _ => rfl
  | n + 1, hn => by
    have ih := seq_normTo p n (by omega)
    rw [List.range_succ, List.filter_append, List.map_append, ← ih, normTo]
    by_cases h1 : p n = true
    · rw [if_pos h1]
      have hf : (List.filter p [n]).map (fun i : Nat => (i : Int)) = [(n : Int)] := by simp [h1]
      rw [hf]
      by_cases h2 : 0 < n ∧ p (n - 1) = true
      · rw [if_pos h2]
        obtain ⟨s, r, he, hr⟩ := normTo_last p n h2.1 h2.2
        have hb := normTo_bd p n r (by rw [he]; simp)
        rw [he, bumpLast_snoc]
        unfold seq
        rw [List.flatMap_append, List.flatMap_append, List.append_assoc]
        congr 1
        simp only [List.flatMap_cons, List.flatMap_nil, List.append_nil]
        unfold seqR
        rw [clip_small r (by omega) (by omega) (by omega), clip_small ⟨r.f, r.c + 1⟩ (by dsimp only; omega) (by dsimp only; omega) (by dsimp only; omega)]
        dsimp only
        have : (r.c + 1).toNat = r.c.toNat + 1 := by omega
        rw [this, List.range_succ, List.map_append]
        congr 1
        simp
        omega
      · rw [if_neg h2]
        unfold seq
        rw [List.flatMap_append]
        congr 1
        simp only [List.flatMap_cons, List.flatMap_nil, List.append_nil]
        unfold seqR
        rw [clip_small ⟨n, 1⟩ (by dsimp only; omega) (by dsimp only; omega) (by dsimp only; omega)]
        simp
    · rw [if_neg h1]
      simp [h1]
/-- The normal form of a set, given by its 128 bits. -/
def norm (p : Int → Bool) : List Run := normTo (fun i : Nat => p (i : Int)) 128
theorem seq_norm (p : Int → Bool) : seq (norm p) = ((List.range 128).filter (fun i : Nat => p (i : Int))).map (fun i : Nat => (i : Int)) := seq_normTo _ 128 (Nat.le_refl _)
theorem ixT_isSome (rs : List Run) (t : Int) : (ixT rs t).isSome = (seq rs).contains t := by
  unfold ixT
  by_cases h : t ∈ seq rs
  · rw [List.contains_iff_mem.2 h]
    cases hx : (seq rs).idxOf? t with
    | some i => rfl
    | none => exact absurd h (List.idxOf?_eq_none_iff.1 hx)
  · rw [List.idxOf?_eq_none_iff.2 h]
    simp [h]
theorem in_norm (p : Int → Bool) (t : Int) (h0 : 0 ≤ t) (h1 : t < 128) : (seq (norm p)).contains t = p t := by
  rw [seq_norm, Bool.eq_iff_iff, List.contains_iff_mem]
  simp only [List.mem_map, List.mem_filter, List.mem_range]
  constructor
  · rintro ⟨i, ⟨_, h⟩, rfl⟩; exact h
  · intro h; exact ⟨t.toNat, ⟨by omega, by rw [Int.toNat_of_nonneg h0]; exact h⟩, by omega⟩
end Go.Proofs.YtjdmgpefjehkaaaGreatDoor
namespace Go.Proofs.YtjdmgpefjehkaaaGreatDoor
open Go.RowKit
attribute [local go_sem] Instr.field asAgg
set_option maxRecDepth 100000

theorem int_info : (Tryz.prog.info? 3).map (fun i => (i.zero, i.size, i.bytes)) = some (some (.int .i64 0), 1, 8) := by kernel_rfl

theorem r_holds (r : Run) (hr : r.ok) (t : Int) (h0 : 0 ≤ t) (h1 : t < 128) (w : World) :
    Calls Tryz.prog 90 #[.agg #[.int .i64 r.f, .int .i64 r.c], .int .i64 t] w fun e w' => e = .returned (.bool (has r t)) ∧ Ext w w' := by
  have hm := Lib.hid (clip_mem r t h0 h1)
  obtain ⟨f, c⟩ := r
  obtain ⟨⟨f1, f2⟩, c1, c2⟩ := hr
  dsimp only at f1 f2 c1 c2
  have hh : has ⟨f, c⟩ t = decide (1 ≤ c ∧ f ≤ t ∧ t < f + c) := by
    unfold has
    rw [← Bool.decide_and, decide_eq_decide]
    exact hm.out
  rw [hh]
  have key := Lib.hid hh
  clear hh
  by_cases hf : f < 0
  · by_cases hc : 1 ≤ c
    · go_enter Tryz.func90, Tryz.ntmps90
      go_wp2
      go_ret
      exact ⟨by simp; omega, (Ext.refl _).alloc _⟩
    · go_enter Tryz.func90, Tryz.ntmps90
      go_wp2
      go_ret
      exact ⟨by simp; omega, (Ext.refl _).alloc _⟩
  · by_cases hc : 1 ≤ c
    · by_cases hl : f ≤ t
      · go_enter Tryz.func90, Tryz.ntmps90
        go_wp2
        go_ret
        exact ⟨by simp; omega, (Ext.refl _).alloc _⟩
      · go_enter Tryz.func90, Tryz.ntmps90
        go_wp2
        go_ret
        exact ⟨by simp; omega, (Ext.refl _).alloc _⟩
    · go_enter Tryz.func90, Tryz.ntmps90
      go_wp2
      go_ret
      exact ⟨by simp; omega, (Ext.refl _).alloc _⟩

/-- What clip has gathered of the tracks below t. -/
def clipTo (r : Run) (t : Int) : Run := if (clip r).c = 0 ∨ t ≤ (clip r).f then ⟨0, 0⟩ else ⟨(clip r).f, min t ((clip r).f + (clip r).c) - (clip r).f⟩

theorem clipTo_0 (r : Run) : clipTo r 0 = ⟨0, 0⟩ := by
  have := clip_bd r
  unfold clipTo
  split
  · rfl
  · exfalso; omega
theorem clipTo_128 (r : Run) : clipTo r 128 = clip r := by
  have hb := clip_bd r
  have hz := clip_zero r
  unfold clipTo
  split
  · have h0 : (clip r).c = 0 := by omega
    have h1 := hz h0
    cases hc : clip r
    rw [hc] at h0 h1
    dsimp only at h0 h1
    subst h0 h1
    rfl
  · cases hc : clip r
    rw [hc] at hb
    simp only [Run.mk.injEq, true_and]
    dsimp only at hb
    omega
theorem clipTo_no (r : Run) (t : Int) (h : has r t = false) : clipTo r (t + 1) = clipTo r t := by
  have hb := clip_bd r
  simp only [has, Bool.and_eq_false_iff, decide_eq_false_iff_not] at h
  unfold clipTo
  by_cases h1 : (clip r).c = 0 ∨ t ≤ (clip r).f
  · rw [if_pos h1, if_pos (by omega)]
  · rw [if_neg h1, if_neg (by omega)]
    simp only [Run.mk.injEq, true_and]
    omega
theorem clipTo_first (r : Run) (t : Int) (h : has r t = true) (hc : (clipTo r t).c = 0) : clipTo r (t + 1) = ⟨t, 1⟩ := by
  have hb := clip_bd r
  simp only [has, Bool.and_eq_true, decide_eq_true_eq] at h
  unfold clipTo at *
  by_cases h1 : (clip r).c = 0 ∨ t ≤ (clip r).f
  · rw [if_neg (by omega)]
    simp only [Run.mk.injEq]
    omega
  · rw [if_neg h1] at hc
    dsimp only at hc
    omega
theorem clipTo_next (r : Run) (t : Int) (h : has r t = true) (hc : ¬ (clipTo r t).c = 0) : clipTo r (t + 1) = ⟨(clipTo r t).f, (clipTo r t).c + 1⟩ := by
  have hb := clip_bd r
  simp only [has, Bool.and_eq_true, decide_eq_true_eq] at h
  unfold clipTo at *
  by_cases h1 : (clip r).c = 0 ∨ t ≤ (clip r).f
  · rw [if_pos h1] at hc; exact absurd rfl hc
  · rw [if_neg (by omega), if_neg h1]
    simp only [Run.mk.injEq, true_and]
    omega
theorem clipTo_bd (r : Run) (t : Int) : 0 ≤ (clipTo r t).c ∧ (clipTo r t).c ≤ 128 := by
  have hb := clip_bd r
  unfold clipTo
  split
  · exact ⟨by decide, by decide⟩
  · dsimp only; omega

theorem r_clip (r : Run) (hr : r.ok) (w : World) :
    Calls Tryz.prog 63 #[.agg #[.int .i64 r.f, .int .i64 r.c]] w fun e w' => e = .returned (.agg #[.int .i64 (clip r).f, .int .i64 (clip r).c]) ∧ Ext w w' := by
  have hu := Tryz.underlying68
  go_enter Tryz.func63, Tryz.ntmps63
  go_wp2
  go_loopg [4] 128 (fun g u wr => ∃ t : Int, t + g = 128 ∧ 0 ≤ t ∧ u = .int .i64 t ∧ Blk wr w.heap.size 68 [.int .i64 r.f, .int .i64 r.c] ∧ Blk wr (w.heap.size + 1) 68 [.int .i64 0, .int .i64 0] ∧ Blk wr (w.heap.size + 1 + 1) 68 [.int .i64 (clipTo r t).f, .int .i64 (clipTo r t).c] ∧ Ext w wr)
  case atStart => exact ⟨0, by omega, by omega, rfl, ((Blk.new w _ _).alloc _).alloc _, (Blk.new_at (by simp) _ [_, _]).alloc _, by rw [clipTo_0]; exact Blk.new_at (by simp) _ [_, _], (((Ext.refl w).alloc _).alloc _).alloc _⟩
  case round =>
    obtain ⟨t, hk, h0, rfl, hB1, hB2, hB3, hx⟩ := hrel
    have hk := Lib.hid hk
    have a0 := hB1.cell 0 rfl
    have a1 := hB1.cell 1 rfl
    by_cases hlt : t < 128
    · go_wp2_with fail
      refine (r_holds r hr t h0 hlt _).mono ?_
      rintro e w1 ⟨rfl, hx1⟩
      have hx2 := hx.trans hx1
      have hB1' := hB1.ext hx1
      have hB2' := hB2.ext hx1
      have hB3' := hB3.ext hx1
      have c0 := hB3'.cell 0 rfl
      have c1 := hB3'.cell 1 rfl
      have z0 := hB3'.frozen 0
      have z1 := hB3'.frozen 1
      have hb := clipTo_bd r t
      cases hh : has r t with
      | false =>
        have hn := Lib.hid (clipTo_no r t hh)
        go_wp2
        go_roundg (127 - t).toNat
        case measure => have := hk.out; omega
        case rel => exact ⟨t + 1, by omega, by omega, by go_num, hB1', hB2', by rw [hn.out]; exact hB3', hx2⟩
      | true =>
        by_cases hc : (clipTo r t).c = 0
        · have hn := Lib.hid (clipTo_first r t hh hc)
          have hq : ((clipTo r t).c == 0) = true := by simp [hc]
          have hcc := Lib.hid hc
          clear hc
          go_wp2
          go_roundg (127 - t).toNat
          case measure => have := hk.out; omega
          case rel => exact ⟨t + 1, by omega, by omega, by go_num, (hB1'.far (by dsimp only; omega) _).far (by dsimp only; omega) _, (hB2'.far (by dsimp only; omega) _).far (by dsimp only; omega) _, by rw [hn.out]; have := (hB3'.set 0 (.int .i64 t)).set 1 (.int .i64 1); simpa [hcc.out] using this, by repeat (first | exact hx2 | refine Ext.set ?_ (by dsimp only; omega) _)⟩
        · have hn := Lib.hid (clipTo_next r t hh hc)
          have hq : ((clipTo r t).c == 0) = false := by simp [hc]
          go_wp2
          go_roundg (127 - t).toNat
          case measure => have := hk.out; omega
          case rel => exact ⟨t + 1, by omega, by omega, by go_num, hB1'.far (by dsimp only; omega) _, hB2'.far (by dsimp only; omega) _, by rw [hn.out]; exact hB3'.set 1 _, by repeat (first | exact hx2 | refine Ext.set ?_ (by dsimp only; omega) _)⟩
    · obtain rfl : t = 128 := by have := hk.out; omega
      rw [clipTo_128] at hB3
      have c0 := hB3.cell 0 rfl
      have c1 := hB3.cell 1 rfl
      have d0 := hB2.cell 0 rfl
      have d1 := hB2.cell 1 rfl
      have z0 := hB2.frozen 0
      have z1 := hB2.frozen 1
      go_wp2
      have hB := (hB2.set 0 (.int .i64 (clip r).f)).set 1 (.int .i64 (clip r).c)
      exact bodyPost_ret (by have e0 := hB.cell 0 rfl; have e1 := hB.cell 1 rfl; simp [results, Tryz.results63, go_sem, e0, e1]) rfl ⟨rfl, (hx.set (by dsimp only; omega) _).set (by dsimp only; omega) _⟩

theorem r_in (A : Option Addr) (cap : Nat) (rs : List Run) (t : Int) (ht : I64 t) (w : World) (hA : Runs w A rs) :
    Calls Tryz.prog 132 #[.slice A rs.length cap, .int .i64 t] w fun e w' => e = .returned (.bool (ixT rs t).isSome) ∧ Ext w w' := by
  have hl := hA.len
  have hu := Tryz.underlying68
  obtain ⟨t1, t2⟩ := ht
  go_enter Tryz.func132, Tryz.ntmps132
  go_wp2
  go_loopg [5] rs.length (fun g i wr => ∃ k : Nat, k + g = rs.length ∧ i = .int .i64 k ∧ Hid (ixT (rs.take k) t = none) ∧ Ext w wr)
  case atStart => exact ⟨0, by omega, rfl, rfl, Ext.refl _⟩
  case round =>
    obtain ⟨k, hk, rfl, hn, hx⟩ := hrel
    have hk := Lib.hid hk
    rcases Nat.lt_or_ge k rs.length with hlt | hge
    · obtain ⟨b, o, rfl, h1, h2⟩ := (hA.ext hx).at_ hlt
      obtain ⟨hb1, hb2, hb3⟩ := clip_bd rs[k]
      have ht := Lib.hid (ixT_take rs t k hlt)
      go_wp2_with fail
      refine (r_clip rs[k] (hA.okAt hlt) _).mono ?_
      rintro e w1 ⟨rfl, hx1⟩
      have hx2 := hx.trans hx1
      go_wp2
      · go_ret
        rename_i q1 q2
        have hh : has rs[k] t = true := by simp [has, q1, q2]
        have he := ht.out
        rw [hn.out, if_pos hh] at he
        rw [ixT_prefix rs t _ he]
        exact ⟨rfl, hx2.alloc _⟩
      all_goals
        have hh : has rs[k] t = false := by simp [has]; omega
        have he := ht.out
        rw [hn.out, hh] at he
        go_roundg (rs.length - k - 1)
        case measure => have := hk.out; omega
        case rel => exact ⟨k + 1, by omega, by go_num, he, hx2.alloc _⟩
    · go_wp2
      go_ret
      have : rs.take k = rs := List.take_of_length_le hge
      have h := hn.out
      rw [this] at h
      exact ⟨by rw [h]; rfl, hx⟩

theorem seqR_get (r : Run) (j : Nat) (h : (j : Int) < (clip r).c) : (seqR r).take (j + 1) = (seqR r).take j ++ [(clip r).f + j] := by
  have hl : j < (seqR r).length := by have := seqR_len r; omega
  rw [List.take_succ_eq_append_getElem hl]
  simp [seqR]
theorem seqR_bd (r : Run) (x : Int) (h : x ∈ seqR r) : 0 ≤ x ∧ x < 128 := by
  have hb := clip_bd r
  rw [mem_seqR] at h
  simp only [has, Bool.and_eq_true, decide_eq_true_eq] at h
  omega
theorem seq_bd (rs : List Run) (x : Int) (h : x ∈ seq rs) : 0 ≤ x ∧ x < 128 := by
  obtain ⟨r, _, hr⟩ := List.mem_flatMap.1 h
  exact seqR_bd r x hr
theorem seq_part (rs : List Run) (k j : Nat) (h : k < rs.length) : ((seq (rs.take k) ++ (seqR rs[k]).take j).length : Int) ≤ 128 * (k + 1) := by
  have h1 := seq_le (rs.take k)
  have h2 := seqR_len rs[k]
  have h3 := clip_bd rs[k]
  have h4 : (rs.take k).length ≤ k := List.length_take_le _ _
  have h5 : ((seqR rs[k]).take j).length ≤ (seqR rs[k]).length := List.length_take_le' _ _
  rw [List.length_append]
  omega

theorem r_seq (A : Option Addr) (cap : Nat) (rs : List Run) (w : World) (hs : (rs.length : Int) ≤ 4294967296) (hA : Runs w A rs) :
    Calls Tryz.prog 38 #[.slice A rs.length cap] w fun e w' => ∃ B c, e = .returned (.slice B (seq rs).length c) ∧ Ints w' B (seq rs) ∧ Ext w w' := by
  have hu := Tryz.underlying68
  go_enter Tryz.func38, Tryz.ntmps38
  go_wp2
  go_loopg [3, 4] rs.length (fun g v i wr => ∃ k : Nat, k + g = rs.length ∧ i = .int .i64 k ∧ wr.ownsRow w.heap.size 3 1 v (seq (rs.take k)).length (intCells (seq (rs.take k))) ∧ Ext w wr)
  case atStart => exact ⟨0, by omega, rfl, own_new w _ _ _ (Nat.le_refl _), (Ext.refl w).alloc _⟩
  case round =>
    obtain ⟨k, hk, rfl, ho, hx⟩ := hrel
    have hk := Lib.hid hk
    obtain ⟨wo, rfl⟩ : ∃ wo : World, wo = wr := ⟨_, rfl⟩
    rcases Nat.lt_or_ge k rs.length with hlt | hge
    · obtain ⟨b, o, rfl, h1, h2⟩ := (hA.ext hx).at_ hlt
      obtain ⟨hb1, hb2, hb3⟩ := clip_bd rs[k]
      go_wp2_with fail
      refine (r_clip rs[k] (hA.okAt hlt) _).mono ?_
      rintro e w1 ⟨rfl, hx1⟩
      have hx2 := hx.trans hx1
      have hle := hx2.le
      have ho1 := ho.kept (row := none) ⟨hx1.os, hx1.tape, hx1.output, hx1.size, fun i hi _ => hx1.block i hi⟩ (by cases Value.ownBlock u3 <;> simp)
      go_wp2
      go_loopg [3, 6] (clip rs[k]).c.toNat (fun g v i wr => ∃ j : Nat, j + g = (clip rs[k]).c.toNat ∧ i = .int .i64 j ∧ wr.ownsRow w.heap.size 3 1 v (seq (rs.take k) ++ (seqR rs[k]).take j).length (intCells (seq (rs.take k) ++ (seqR rs[k]).take j)) ∧ Blk wr w1.heap.size 68 [.int .i64 (clip rs[k]).f, .int .i64 (clip rs[k]).c] ∧ Ext w wr)
      case atStart => exact ⟨0, by omega, rfl, by simpa using ho1.alloc _, Blk.new w1 _ [_, _], hx2.alloc _⟩
      case round =>
        obtain ⟨j, hj, rfl, ho2, hB, hx3⟩ := hrel
        have hj := Lib.hid hj
        have c0 := hB.cell 0 rfl
        have c1 := hB.cell 1 rfl
        rcases Nat.lt_or_ge j (clip rs[k]).c.toNat with hjl | hjg
        · have hjc : (j : Int) < (clip rs[k]).c := by omega
          have hpart := seq_part rs k j hlt
          have hk3 : (k : Int) + 1 ≤ rs.length := by omega
          have hsg := Lib.hid (seqR_get rs[k] j hjc)
          go_wp2_with (at_builtin; refine app1 w.heap.size rfl _ _ _ 3 (.int .i64 0) 1 8 rfl Tryz.underlying26 int_info rfl (by omega) (by omega) u3 _ _ [.int .i64 ((clip rs[k]).f + j)] rfl (by simp [Value.oneCell']) rfl rfl ho2 hx3.le (by omega) ?_; intro v1 w2 ho3 hg)
          go_roundg ((clip rs[k]).c.toNat - j - 1)
          case measure => have := hj.out; omega
          case rel => exact ⟨j + 1, by omega, by go_num, by rw [hsg.out, ← List.append_assoc, ← intCells_snoc, List.length_append (bs := [_])]; exact ho3, hB.grown hg (own_far ho2 hB (by decide)), hx3.own ho2 hg⟩
        · go_wp2
          go_roundg (rs.length - k - 1)
          case measure => have := hk.out; omega
          case rel =>
            have : (seqR rs[k]).take j = seqR rs[k] := List.take_of_length_le (by have := seqR_len rs[k]; omega)
            rw [this] at ho2
            exact ⟨k + 1, by omega, by go_num, by rw [seq_take rs k hlt]; exact ho2, hx3⟩
    · have : rs.take k = rs := List.take_of_length_le hge
      rw [this] at ho
      obtain ⟨B, c, rfl, _⟩ := own_slice ho
      go_wp2
      go_ret
      exact ⟨B, c, rfl, Ints.own ho (fun x hx => by have := seq_bd rs x hx; exact ⟨by omega, by omega⟩) (by have := seq_le rs; omega), hx⟩
end Go.Proofs.YtjdmgpefjehkaaaGreatDoor
namespace Go.Proofs.YtjdmgpefjehkaaaGreatDoor
open Go.RowKit
attribute [local go_sem] Instr.field asAgg
set_option maxRecDepth 100000

theorem all_snoc {α : Type} {l : List α} {k : Nat} {P : α → Prop} (h : ∀ j (hj : j < l.length), j < k → P l[j]) (hk : k < l.length) (q : P l[k]) : ∀ j (hj : j < l.length), j < k + 1 → P l[j] := by
  intro j hj hjk
  rcases Nat.lt_or_ge j k with h1 | h1
  · exact h j hj h1
  · obtain rfl : j = k := by omega
    exact q
theorem take_snoc {α : Type} {a b : List α} {k : Nat} (h : a.take k = b.take k) (ha : k < a.length) (hb : k < b.length) (he : a[k] = b[k]) : a.take (k + 1) = b.take (k + 1) := by
  rw [List.take_succ_eq_append_getElem ha, List.take_succ_eq_append_getElem hb, h, he]

theorem eql2 (a b c d : Int) (w : World) : (binOp .eql 68 (.agg #[.int .i64 a, .int .i64 b]) (.agg #[.int .i64 c, .int .i64 d])).run Tryz.prog w = .ok (.bool (a == c && b == d)) w := by
  have hu := Tryz.underlying68
  simp [go_sem, Op.eqFields, hu, Program.fieldsOf]
  cases h : (a == c) <;> cases h2 : (b == d) <;> simp_all
theorem neq2 (a b c d : Int) (w : World) : (binOp .neq 68 (.agg #[.int .i64 a, .int .i64 b]) (.agg #[.int .i64 c, .int .i64 d])).run Tryz.prog w = .ok (.bool (!(a == c && b == d))) w := by
  have hu := Tryz.underlying68
  simp [go_sem, Op.eqFields, hu, Program.fieldsOf]
  cases h : (a == c) <;> cases h2 : (b == d) <;> simp_all
theorem r_ints (A B : Option Addr) (ca cb : Nat) (a b : List Int) (w : World) (hA : Ints w A a) (hB : Ints w B b) :
    Calls Tryz.prog 12 #[.slice A a.length ca, .slice B b.length cb] w fun e w' => e = .returned (.bool (decide (a = b))) ∧ Ext w w' := by
  have hla := hA.len
  have hlb := hB.len
  by_cases hlen : a.length = b.length
  · have l1 : a.length ≤ b.length := by omega
    have l2 : b.length ≤ a.length := by omega
    clear hlen
    go_enter Tryz.func12, Tryz.ntmps12
    go_wp2
    go_loopg [5] a.length (fun g i wr => ∃ k : Nat, k + g = a.length ∧ i = .int .i64 k ∧ Hid (a.take k = b.take k) ∧ Ext w wr)
    case atStart => exact ⟨0, by omega, rfl, rfl, Ext.refl _⟩
    case round =>
      obtain ⟨k, hk, rfl, hn, hx⟩ := hrel
      have hk := Lib.hid hk
      rcases Nat.lt_or_ge k a.length with hlt | hge
      · obtain ⟨b1, o1, rfl, h1⟩ := (hA.ext hx).at_ hlt
        obtain ⟨b2, o2, rfl, h2⟩ := (hB.ext hx).at_ (show k < b.length by omega)
        go_wp2_with fail
        go_quiet (fail)
        go_wp2
        · go_ret
          have hd : a[k] ≠ b[k] := by simpa using (‹(a[k] != b[k]) = true› : (a[k] != b[k]) = true)
          exact ⟨by have : a ≠ b := (fun h => hd (by subst h; rfl)); simp [this], hx.drewN _⟩
        · have hd : a[k] = b[k] := by simpa using (‹(a[k] != b[k]) = false› : (a[k] != b[k]) = false)
          go_roundg (a.length - k - 1)
          case measure => have := hk.out; omega
          case rel => exact ⟨k + 1, by omega, by go_num, take_snoc hn.out hlt _ hd, hx.drewN _⟩
      · go_wp2
        go_ret
        have h := hn.out
        rw [List.take_of_length_le hge, List.take_of_length_le (by omega)] at h
        exact ⟨by rw [h]; simp, hx⟩
  · have hlen := Lib.hid hlen
    rcases Nat.lt_or_gt_of_ne hlen.out with l1 | l1
    all_goals
      go_enter Tryz.func12, Tryz.ntmps12
      go_wp2
      go_ret
      exact ⟨by have : a ≠ b := fun h => hlen.out (by rw [h]); simp [this], Ext.refl _⟩

theorem r_same (A B : Option Addr) (ca cb : Nat) (a b : List Run) (w : World) (hA : Runs w A a) (hB : Runs w B b) :
    Calls Tryz.prog 112 #[.slice A a.length ca, .slice B b.length cb] w fun e w' => e = .returned (.bool (decide (a = b))) ∧ Ext w w' := by
  have hla := hA.len
  have hlb := hB.len
  have hq := neq2
  by_cases hlen : a.length = b.length
  · have l1 : a.length ≤ b.length := by omega
    have l2 : b.length ≤ a.length := by omega
    clear hlen
    go_enter Tryz.func112, Tryz.ntmps112
    go_wp2
    go_loopg [5] a.length (fun g i wr => ∃ k : Nat, k + g = a.length ∧ i = .int .i64 k ∧ Hid (a.take k = b.take k) ∧ Ext w wr)
    case atStart => exact ⟨0, by omega, rfl, rfl, Ext.refl _⟩
    case round =>
      obtain ⟨k, hk, rfl, hn, hx⟩ := hrel
      have hk := Lib.hid hk
      rcases Nat.lt_or_ge k a.length with hlt | hge
      · obtain ⟨b1, o1, rfl, h1, h1'⟩ := (hA.ext hx).at_ hlt
        obtain ⟨b2, o2, rfl, h2, h2'⟩ := (hB.ext hx).at_ (show k < b.length by omega)
        go_wp2_with fail
        go_quiet (fail)
        go_wp2
        · go_ret
          rename_i q
          have hd : a[k] ≠ b[k] := by
            intro h
            rw [h] at q
            simp at q
          exact ⟨by have : a ≠ b := (fun h => hd (by subst h; rfl)); simp [this], hx.drewN _⟩
        · rename_i q
          have hd : a[k] = b[k] := by
            cases h1 : a[k]; cases h2 : b[k]
            rw [h1, h2] at q
            simpa using q
          go_roundg (a.length - k - 1)
          case measure => have := hk.out; omega
          case rel => exact ⟨k + 1, by omega, by go_num, take_snoc hn.out hlt _ hd, hx.drewN _⟩
      · go_wp2
        go_ret
        have h := hn.out
        rw [List.take_of_length_le hge, List.take_of_length_le (by omega)] at h
        exact ⟨by rw [h]; simp, hx⟩
  · have hlen := Lib.hid hlen
    rcases Nat.lt_or_gt_of_ne hlen.out with l1 | l1
    all_goals
      go_enter Tryz.func112, Tryz.ntmps112
      go_wp2
      go_ret
      exact ⟨by have : a ≠ b := fun h => hlen.out (by rw [h]); simp [this], Ext.refl _⟩

theorem r_disjoint (A : Option Addr) (cap : Nat) (rs : List Run) (w : World) (hs : (rs.length : Int) ≤ 4294967296) (hA : Runs w A rs) :
    Calls Tryz.prog 106 #[.slice A rs.length cap] w fun e w' => e = .returned (.bool (decide (seq rs).Nodup)) ∧ Ext w w' := by
  have HC := fun w => r_seq A cap rs w hs
  generalize seq rs = l at *
  go_enter Tryz.func106, Tryz.ntmps106
  go_wp2_with fail
  refine (HC _ hA).mono ?_
  clear HC
  rintro e w1 ⟨B, c, rfl, hB, hx⟩
  have hl := hB.len
  go_wp2
  go_loopg [4] l.length (fun g i wr => ∃ k : Nat, k + g = l.length ∧ i = .int .i64 k ∧ Hid ((l.take k).Nodup) ∧ Ext w1 wr)
  case atStart => exact ⟨0, by omega, rfl, by simp [Hid], Ext.refl _⟩
  case round =>
    obtain ⟨k, hk, rfl, hn, hx1⟩ := hrel
    have hk := Lib.hid hk
    obtain ⟨wo, rfl⟩ : ∃ wo : World, wo = wr := ⟨_, rfl⟩
    rcases Nat.lt_or_ge k l.length with hlt | hge
    · obtain ⟨b1, o1, rfl, h1⟩ := hB.at_ hlt
      go_wp2
      go_loopg [5] k (fun g i wr => ∃ j : Nat, j + g = k ∧ i = .int .i64 j ∧ Hid (∀ j' (h : j' < l.length), j' < j → l[j'] ≠ l[k]) ∧ Ext w1 wr)
      case atStart => exact ⟨0, by omega, rfl, fun j _ h => by omega, hx1⟩
      case round =>
        obtain ⟨j, hj, rfl, hm, hx2⟩ := hrel
        have hj := Lib.hid hj
        have e1 := hx2.cell h1
        rcases Nat.lt_or_ge j k with hjl | hjg
        · obtain ⟨b2, o2, he, h2⟩ := hB.at_ (show j < l.length by omega)
          cases he
          have e2 := hx2.cell h2
          go_wp2_with fail
          go_quiet (fail)
          go_wp2
          · go_ret
            rename_i q
            have q : l[k] = l[j] := by simpa using q
            refine ⟨?_, hx.trans (hx2.drewN _)⟩
            have : ¬ l.Nodup := fun hd => (List.pairwise_iff_getElem.1 hd j k (by omega) hlt hjl) q.symm
            simp [this]
          · rename_i q
            have q : l[j] ≠ l[k] := by intro h; rw [h] at q; simp at q
            go_roundg (k - j - 1)
            case measure => have := hj.out; omega
            case rel => exact ⟨j + 1, by omega, by go_num, all_snoc (P := (· ≠ l[k])) hm.out (by omega) q, hx2.drewN _⟩
        · go_wp2
          go_roundg (l.length - k - 1)
          case measure => have := hk.out; omega
          case rel =>
            refine ⟨k + 1, by omega, by go_num, ?_, hx2⟩
            show (l.take (k + 1)).Nodup
            rw [List.take_succ_eq_append_getElem hlt, List.nodup_append]
            refine ⟨hn.out, by simp, fun a ha b hb => ?_⟩
            obtain rfl : b = l[k] := by simpa using hb
            obtain ⟨j', hj', rfl⟩ := List.getElem_of_mem ha
            rw [List.length_take] at hj'
            rw [List.getElem_take]
            exact hm.out j' (by omega) (by omega)
    · go_wp2
      go_ret
      have h := hn.out
      rw [List.take_of_length_le hge] at h
      exact ⟨by simp [h], hx.trans hx1⟩
end Go.Proofs.YtjdmgpefjehkaaaGreatDoor
namespace Go.Proofs.YtjdmgpefjehkaaaGreatDoor
open Go.RowKit
attribute [local go_sem] Instr.field asAgg
set_option maxRecDepth 100000

theorem run_info : (Tryz.prog.info? 68).map (fun i => (i.zero, i.size, i.bytes)) = some (some (.agg #[.int .i64 0, .int .i64 0]), 2, 16) := by kernel_rfl
theorem bool_info : (Tryz.prog.info? 4).map (fun i => (i.zero, i.size, i.bytes)) = some (some (.bool false), 1, 1) := by kernel_rfl
def OwnRuns (w0 w : World) (v : Value) (rs : List Run) : Prop := w.ownsRow w0.heap.size 68 2 v rs.length (rs.flatMap runCells)
theorem OwnRuns.runs {w0 w : World} {v : Value} {rs : List Run} (h : OwnRuns w0 w v rs) (hok : ∀ r ∈ rs, r.ok) (hl : (rs.length : Int) ≤ 8796093022208) : ∃ A c, v = .slice A rs.length c ∧ rs.length ≤ c ∧ Runs w A rs := by
  obtain ⟨A, c, rfl, hc⟩ := own_slice h
  exact ⟨A, c, rfl, hc, Sl.own h, hok, hl⟩
theorem OwnRuns.ext {w0 w w' : World} {v : Value} {rs : List Run} (h : OwnRuns w0 w v rs) (k : Ext w w') : OwnRuns w0 w' v rs :=
  World.ownsRow.kept (row := none) h ⟨k.os, k.tape, k.output, k.size, fun i hi _ => k.block i hi⟩ (by cases Value.ownBlock v <;> simp)
def boolCells (l : List Bool) : List Value := l.map .bool
theorem boolCells_snoc (l : List Bool) (x : Bool) : boolCells l ++ [.bool x] = boolCells (l ++ [x]) := by simp [boolCells]
structure Bools (w : World) (A : Option Addr) (l : List Bool) : Prop where
  sl : Sl w A (boolCells l)
theorem Bools.ext {w w' : World} {A : Option Addr} {l : List Bool} (h : Bools w A l) (k : Ext w w') : Bools w' A l := ⟨h.sl.ext k⟩
theorem Bools.at_ {w : World} {A : Option Addr} {l : List Bool} (h : Bools w A l) {i : Nat} (hi : i < l.length) : ∃ b o, A = some ⟨b, o, none⟩ ∧ (w.cell? ⟨b, o + i, none⟩ = some (.bool (l.getD i false))) ∧ ∀ j, j < l.length → w.cell? ⟨b, o + j, none⟩ = some (.bool (l.getD j false)) := by
  obtain ⟨b, o, e, hc⟩ := h.sl (by intro hn; have : (boolCells l).length = l.length := by simp [boolCells]
                                   rw [hn] at this; simp at this; omega)
  have hj : ∀ j, j < l.length → w.cell? ⟨b, o + j, none⟩ = some (.bool (l.getD j false)) := fun j hj => hc j _ (by simp [boolCells, hj])
  exact ⟨b, o, e, hj i hi, hj⟩

theorem r_set (A : Option Addr) (cap : Nat) (bs : List Bool) (hl : (bs.length : Int) ≤ 100000) (w : World) (hA : Bools w A bs) :
    Calls Tryz.prog 133 #[.slice A bs.length cap] w fun e w' => ∃ v, e = .returned v ∧ OwnRuns w w' v (normTo (fun i => bs.getD i false) bs.length) ∧ Ext w w' := by
  have hu := Tryz.underlying68
  go_enter Tryz.func133, Tryz.ntmps133
  go_wp2
  go_loopg [3, 4] bs.length (fun g v i wr => ∃ k : Nat, k + g = bs.length ∧ i = .int .i64 k ∧ OwnRuns w wr v (normTo (fun i => bs.getD i false) k) ∧ Ext w wr)
  case atStart => exact ⟨0, by omega, rfl, own_new w _ _ _ (Nat.le_refl _), (Ext.refl w).alloc _⟩
  case round =>
    obtain ⟨k, hk, rfl, ho, hx⟩ := hrel
    have hk := Lib.hid hk
    rcases Nat.lt_or_ge k bs.length with hlt | hge
    · obtain ⟨b, o, rfl, h1, hall⟩ := (hA.ext hx).at_ hlt
      have hall := Lib.hid hall
      have hnl := normTo_len (fun i => bs.getD i false) k
      cases hb : bs.getD k false with
      | false =>
        rw [hb] at h1
        have hb := Lib.hid hb
        go_wp2
        go_roundg (bs.length - k - 1)
        case measure => have := hk.out; omega
        case rel => exact ⟨k + 1, by omega, by go_num, by rw [normTo, hb.out]; exact ho, hx⟩
      | true =>
        rw [hb] at h1
        have hb := Lib.hid hb
        have hap : ∀ (hnn : ¬ (0 < k ∧ bs.getD (k - 1) false = true)), Hid (normTo (fun i => bs.getD i false) (k + 1) = normTo (fun i => bs.getD i false) k ++ [⟨k, 1⟩]) := fun hnn => by
          show normTo _ (k + 1) = _
          rw [normTo, if_pos hb.out, if_neg hnn]
        rcases Nat.eq_zero_or_pos k with h0 | h0
        · have he := hap (by omega)
          clear hap
          have h0' : (k : Int) ≤ 0 := by omega
          clear h0
          go_wp2_with (at_builtin; refine app1 w.heap.size rfl _ _ _ 68 (.agg #[.int .i64 0, .int .i64 0]) 2 16 rfl Tryz.underlying41 run_info rfl (by omega) (by omega) u3 _ _ [.int .i64 k, .int .i64 1] rfl (by simp [Value.oneCell']) rfl rfl ho hx.le (by omega) ?_; intro v1 w2 ho3 hg)
          go_roundg (bs.length - k - 1)
          case measure => have := hk.out; omega
          case rel => exact ⟨k + 1, by omega, by go_num, by rw [he.out]; simpa [OwnRuns, runCells] using ho3, hx.own ho hg⟩
        · cases hp : bs.getD (k - 1) false with
          | false =>
            have h2 := hall.out (k - 1) (by omega)
            rw [hp] at h2
            have he := hap (by rw [hp]; simp)
            clear hap
            have hp := Lib.hid hp
            have h0' : (1 : Int) ≤ k := by omega
            go_wp2_with (at_builtin; refine app1 w.heap.size rfl _ _ _ 68 (.agg #[.int .i64 0, .int .i64 0]) 2 16 rfl Tryz.underlying41 run_info rfl (by omega) (by omega) u3 _ _ [.int .i64 k, .int .i64 1] rfl (by simp [Value.oneCell']) rfl rfl ho hx.le (by omega) ?_; intro v1 w2 ho3 hg)
            go_roundg (bs.length - k - 1)
            case measure => have := hk.out; omega
            case rel => exact ⟨k + 1, by omega, by go_num, by rw [he.out]; simpa [OwnRuns, runCells] using ho3, hx.own ho hg⟩
          | true =>
            have h2 := hall.out (k - 1) (by omega)
            rw [hp] at h2
            clear hap
            obtain ⟨s, r, hs, hr⟩ := normTo_last (fun i => bs.getD i false) k h0 hp
            have hbd := normTo_bd (fun i => bs.getD i false) k r (by rw [hs]; simp)
            have he : Hid (normTo (fun i => bs.getD i false) (k + 1) = s ++ [⟨r.f, r.c + 1⟩]) := by
              show normTo _ (k + 1) = _
              rw [normTo, if_pos hb.out, if_pos ⟨h0, hp⟩, hs, bumpLast_snoc]
            have hp := Lib.hid hp
            rw [hs] at ho hnl
            have hs := Lib.hid hs
            have h0' : (1 : Int) ≤ k := by omega
            have hlen : s.length + 1 ≤ k := by simpa using hnl
            obtain ⟨g, cap', hv, _, hg⟩ := World.ownsRow.form ho (by simp)
            obtain rfl := hv
            have c1 : wr.cell? ⟨g, s.length * 2 + 1, none⟩ = some (.int .i64 r.c) := (ho.cellAt (s.length * 2 + 1) (by simp; omega)).trans (by
              rw [List.flatMap_append, List.getElem?_append_right (by rw [flat_len]; omega), flat_len]
              have : s.length * 2 + 1 - s.length * 2 = 1 := by omega
              rw [this]; rfl)
            have z1 := ho.frozenAt (s.length * 2 + 1)
            simp only [List.length_append, List.length_cons, List.length_nil, Nat.zero_add]
            go_wp2
            have hst := ho.stored (s.length * 2 + 1) (.int .i64 (r.c + 1))
            rw [set_cells] at hst
            go_roundg (bs.length - k - 1)
            case measure => have := hk.out; omega
            case rel => exact ⟨k + 1, by omega, by go_num, by rw [he.out]; simpa [OwnRuns] using hst.1, hx.grown hst.2 (fun i hi => by obtain rfl : g = i := (by simpa using hi); exact (World.ownsRow.lt ho g (by simp [Value.ownBlock])).1)⟩
    · have : normTo (fun i => bs.getD i false) bs.length = normTo (fun i => bs.getD i false) k := by
        have : k = bs.length := by have := hk.out; omega
        rw [this]
      rw [← this] at ho
      go_wp2
      go_ret
      exact ⟨_, rfl, ho, hx⟩

theorem r_Set (A B : Option Addr) (ca cb : Nat) (a b : List Run) (w : World) (hA : Runs w A a) (hB : Runs w B b) :
    Calls Tryz.prog 127 #[.slice A a.length ca, .slice B b.length cb, .bool true, .bool false, .bool false] w fun e w' => ∃ v, e = .returned v ∧ OwnRuns w w' v (norm fun t => (ixT a t).isSome && !(ixT b t).isSome) ∧ Ext w w' := by
  go_enter Tryz.func127, Tryz.ntmps127
  go_wp2
  go_loopg [11, 12] 128 (fun g v i wr => ∃ k : Nat, k + g = 128 ∧ i = .int .i64 k ∧ wr.ownsRow w.heap.size 4 1 v k (boolCells ((List.range k).map fun t : Nat => (ixT a t).isSome && !(ixT b t).isSome)) ∧ Ext w wr)
  case atStart => exact ⟨0, by omega, rfl, by simpa [boolCells] using own_new w w.heap.size 4 1 (Nat.le_refl _), (Ext.refl w).alloc _⟩
  case round =>
    obtain ⟨k, hk, rfl, ho, hx⟩ := hrel
    have hk := Lib.hid hk
    rcases Nat.lt_or_ge k 128 with hlt | hge
    · go_wp2_with fail
      refine (r_in A ca a k ⟨by omega, by omega⟩ _ (hA.ext hx)).mono ?_
      rintro e w1 ⟨rfl, hx1⟩
      go_wp2_with fail
      refine (r_in B cb b k ⟨by omega, by omega⟩ _ ((hB.ext hx).ext hx1)).mono ?_
      rintro e w2 ⟨rfl, hx2⟩
      have hx3 := (hx.trans hx1).trans hx2
      have ho2 := (ho.kept (row := none) ⟨hx1.os, hx1.tape, hx1.output, hx1.size, fun i hi _ => hx1.block i hi⟩ (by cases Value.ownBlock u11 <;> simp)).kept (row := none) ⟨hx2.os, hx2.tape, hx2.output, hx2.size, fun i hi _ => hx2.block i hi⟩ (by cases Value.ownBlock u11 <;> simp)
      have hr : Hid ((List.range (k + 1)).map (fun t : Nat => (ixT a t).isSome && !(ixT b t).isSome) = (List.range k).map (fun t : Nat => (ixT a t).isSome && !(ixT b t).isSome) ++ [(ixT a k).isSome && !(ixT b k).isSome]) := by
        show List.map _ (List.range (k + 1)) = _
        rw [List.range_succ, List.map_append]; rfl
      generalize (ixT a (k : Int)).isSome = x at *
      generalize (ixT b (k : Int)).isSome = y at *
      cases x <;> cases y
      all_goals
        go_wp2_with (at_builtin; refine app1 w.heap.size rfl _ _ _ 4 (.bool false) 1 1 rfl Tryz.underlying153 bool_info rfl (by omega) (by omega) u11 _ _ [.bool _] rfl (by simp [Value.oneCell']) rfl rfl ho2 hx3.le (by omega) ?_; intro v1 w3 ho3 hg)
        go_roundg (128 - k - 1)
        case measure => have := hk.out; omega
        case rel => exact ⟨k + 1, by omega, by go_num, by rw [hr.out, ← boolCells_snoc]; exact ho3, hx3.own ho2 hg⟩
    · obtain rfl : k = 128 := by have := hk.out; omega
      obtain ⟨C, c, rfl, _⟩ := own_slice ho
      go_wp2_with fail
      have hlen : ((List.range 128).map fun t : Nat => (ixT a t).isSome && !(ixT b t).isSome).length = 128 := by simp
      have hs := r_set C c ((List.range 128).map fun t : Nat => (ixT a t).isSome && !(ixT b t).isSome) (by rw [hlen]; omega) wr ⟨Sl.own ho⟩
      rw [hlen] at hs
      refine hs.mono ?_
      rintro e w1 ⟨v, rfl, hv, hx1⟩
      go_wp2
      go_ret
      refine ⟨v, rfl, ?_, hx.trans hx1⟩
      rw [normTo_congr (q := fun t : Nat => (ixT a t).isSome && !(ixT b t).isSome) 128 (fun i hi => by simp [List.getD_eq_getElem?_getD, hi])] at hv
      exact ⟨hv.1, hv.2.imp id (fun ⟨g, cap, cur, h1, h2, h3⟩ => ⟨g, cap, cur, h1, Nat.le_trans hx.le h2, h3⟩)⟩
end Go.Proofs.YtjdmgpefjehkaaaGreatDoor
