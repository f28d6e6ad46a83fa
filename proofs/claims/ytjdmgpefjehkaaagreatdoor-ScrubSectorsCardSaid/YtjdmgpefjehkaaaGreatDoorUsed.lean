/- dasdref08.used: the extents of all labels; dasdref06.Free and minus; Normal, Best, Allocate where one run is enough. -/
import Derived.Test.YtjdmgpefjehkaaaGreatDoorApp
import Derived.Test.YtjdmgpefjehkaaaGreatDoorRef05
import Derived.Test.YtjdmgpefjehkaaaGreatDoorLabEq
namespace Go.Proofs.YtjdmgpefjehkaaaGreatDoor
open Go.RowKit
attribute [local go_sem] Instr.field asAgg
set_option maxRecDepth 100000

def allE (ls : List Label) : List Run := ls.flatMap fun l => l.ext
theorem allE_snoc (ls : List Label) (k : Nat) (h : k < ls.length) : allE (ls.take (k + 1)) = allE (ls.take k) ++ ls[k].ext := by
  unfold allE; rw [List.take_succ_eq_append_getElem h, List.flatMap_append]; simp
theorem allE_len : ∀ ls : List Label, (∀ l ∈ ls, (l.ext.length : Int) ≤ 1000000) → ((allE ls).length : Int) ≤ 1000000 * ls.length
  | [], _ => by simp [allE]
  | l :: r, h => by
    have ih := allE_len r fun x hx => h x (by simp [hx])
    have h1 := h l (by simp)
    have : allE (l :: r) = l.ext ++ allE r := by simp [allE]
    rw [this, List.length_append, List.length_cons]
    omega
theorem allE_ok {w : World} {A : Option Addr} {ls : List Label} (h : Labels w A ls) : ∀ r ∈ allE ls, r.ok := by
  intro r hr
  obtain ⟨l, hl, h2⟩ := List.mem_flatMap.1 hr
  obtain ⟨i, hi, rfl⟩ := List.getElem_of_mem hl
  obtain ⟨_, _, _, _, _, _, _, _, _, _, hB, _⟩ := h.at_ hi
  exact hB.ok r h2

theorem r_used (nm : ByteArray) (tr : Int) (A : Option Addr) (c : Nat) (ls : List Label) (hsm : ∀ l ∈ ls, (l.ext.length : Int) ≤ 1000000) (hln : (ls.length : Int) ≤ 1000000) (w : World) (hA : Labels w A ls) :
    Calls Tryz.prog 107 #[.agg #[.string nm, .int .i64 tr, .slice A ls.length c]] w fun e w' => ∃ B cb, e = .returned (.slice B (allE ls).length cb) ∧ Runs w' B (allE ls) ∧ Ext w w' := by
  have hu2 := Tryz.underlying24
  have hu3 := Tryz.underlying43
  go_enter Tryz.func107, Tryz.ntmps107
  go_wp2
  go_loopg [3, 4] ls.length (fun g v i wr => ∃ k : Nat, k + g = ls.length ∧ i = .int .i64 k ∧ wr.ownsRow w.heap.size 68 2 v (allE (ls.take k)).length ((allE (ls.take k)).flatMap runCells) ∧ Ext w wr ∧ Blk wr w.heap.size 24 [.string nm, .int .i64 tr, .slice A ls.length c])
  case atStart => exact ⟨0, by omega, rfl, by simpa [allE] using own_new (w.alloc _) w.heap.size 68 2 (by simp), ((Ext.refl w).alloc _).alloc _, (Blk.new w _ [_, _, _]).alloc _⟩
  case round =>
    obtain ⟨k, hk, rfl, ho, hx, hT⟩ := hrel
    have hk := Lib.hid hk
    have d2 := hT.cell 2 rfl
    rcases Nat.lt_or_ge k ls.length with hlt | hge
    · obtain ⟨b, o, B, cb, rfl, _, _, _, _, a4, hB, _⟩ := (hA.ext hx).at_ hlt
      have h1 := allE_len (ls.take k) fun l hl => hsm l (List.mem_of_mem_take hl)
      have h2 := hsm _ (List.getElem_mem hlt)
      have h3 : (ls.take k).length ≤ k := List.length_take_le _ _
      have hsn := Lib.hid (allE_snoc ls k hlt)
      go_wp2_with (at_builtin; refine app_src w.heap.size rfl _ _ _ 68 (.agg #[.int .i64 0, .int .i64 0]) 2 16 rfl Tryz.underlying41 run_info rfl (by omega) (by omega) u3 _ _ B ls[k].ext.length cb (ls[k].ext.flatMap runCells) rfl rfl (runs_len _) (runs_one _) hB.sl ho hx.le (by omega) ?_; intro v1 w2 ho3 hg _)
      go_roundg (ls.length - k - 1)
      case measure => have := hk.out; omega
      case rel => exact ⟨k + 1, by omega, by go_num, by rw [hsn.out, List.length_append, List.flatMap_append]; exact ho3, hx.own ho hg, hT.grown hg (own_far ho hT (by decide))⟩
    · rw [List.take_of_length_le hge] at ho
      obtain ⟨B, cb, rfl, _⟩ := own_slice ho
      have h1 := allE_len ls hsm
      go_wp2
      go_ret
      exact ⟨B, cb, rfl, ⟨Sl.own ho, allE_ok hA, by omega⟩, hx⟩

/-! ### free tracks -/
theorem r_minus (A B : Option Addr) (ca cb : Nat) (a b : List Run) (w : World) (hA : Runs w A a) (hB : Runs w B b) :
    Calls Tryz.prog 121 #[.slice A a.length ca, .slice B b.length cb] w fun e w' => ∃ v, e = .returned v ∧ OwnRuns w w' v (norm fun t => (ixT a t).isSome && !(ixT b t).isSome) ∧ Ext w w' := by
  go_enter Tryz.func121, Tryz.ntmps121
  go_wp2_with fail
  refine (r_Set A B ca cb a b _ hA hB).mono ?_
  rintro e w1 ⟨v, rfl, hv, hx⟩
  go_wp2
  go_ret
  exact ⟨v, rfl, hv, hx⟩
theorem r_Normal (A : Option Addr) (ca : Nat) (a : List Run) (w : World) (hA : Runs w A a) :
    Calls Tryz.prog 120 #[.slice A a.length ca] w fun e w' => ∃ v, e = .returned v ∧ OwnRuns w w' v (norm fun t => (ixT a t).isSome) ∧ Ext w w' := by
  go_enter Tryz.func120, Tryz.ntmps120
  go_wp2_with fail
  refine (r_Set A none ca 0 a [] _ hA (Runs.nil _ _)).mono ?_
  rintro e w1 ⟨v, rfl, hv, hx⟩
  go_wp2
  go_ret
  refine ⟨v, rfl, ?_, hx⟩
  have : (fun t : Int => (ixT a t).isSome && !(ixT [] t).isSome) = fun t => (ixT a t).isSome := by
    funext t
    simp [ixT, seq]
  rwa [this] at hv

/-- The tracks from first to last, one run each, among those below n. -/
def ones (first last : Int) (n : Nat) : List Run := ((List.range n).filter fun t : Nat => decide (first ≤ (t : Int)) && decide ((t : Int) < last)).map fun t : Nat => (⟨(t : Int), 1⟩ : Run)
theorem ones_yes (a b : Int) (k : Nat) (h1 : a ≤ (k : Int)) (h2 : (k : Int) < b) : ones a b (k + 1) = ones a b k ++ [⟨(k : Int), 1⟩] := by
  unfold ones; rw [List.range_succ, List.filter_append, List.map_append, List.filter_cons_of_pos (by simp [h1, h2]), List.filter_nil]; rfl
theorem ones_no (a b : Int) (k : Nat) (h : ¬ (a ≤ (k : Int) ∧ (k : Int) < b)) : ones a b (k + 1) = ones a b k := by
  unfold ones; rw [List.range_succ, List.filter_append, List.map_append, List.filter_cons_of_neg (by simpa using h), List.filter_nil]; exact List.append_nil _
theorem ones_len (a b : Int) (k : Nat) : (ones a b k).length ≤ k := by
  unfold ones
  rw [List.length_map]
  exact Nat.le_trans (List.length_filter_le _ _) (by simp)
theorem ones_ok (a b : Int) (k : Nat) (hk : k ≤ 128) : ∀ r ∈ ones a b k, r.ok := by
  intro r hr
  obtain ⟨i, hi, rfl⟩ := List.mem_map.1 hr
  have := List.mem_range.1 (List.mem_filter.1 hi).1
  exact ⟨⟨by dsimp only; omega, by dsimp only; omega⟩, by dsimp only; omega, by dsimp only; omega⟩
theorem seq_ones (a b : Int) : ∀ n : Nat, n ≤ 128 → ∀ t : Int, t ∈ seq (ones a b n) ↔ 0 ≤ t ∧ t < n ∧ a ≤ t ∧ t < b
  | 0, _, t => by simp [ones, seq]; omega
  | n + 1, hn, t => by
    have ih := seq_ones a b n (by omega) t
    by_cases h : a ≤ (n : Int) ∧ (n : Int) < b
    · rw [ones_yes a b n h.1 h.2]
      unfold seq at *
      rw [List.flatMap_append, List.mem_append, ih]
      have : List.flatMap seqR [(⟨(n : Int), 1⟩ : Run)] = seqR ⟨(n : Int), 1⟩ := by simp
      rw [this, mem_seqR]
      unfold has
      rw [clip_small _ (by dsimp only; omega) (by dsimp only; omega) (by dsimp only; omega)]
      simp only [Bool.and_eq_true, decide_eq_true_eq]
      omega
    · rw [ones_no a b n h, ih]
      omega
theorem ixT_ones (a b t : Int) (h0 : 0 ≤ t) (h1 : t < 128) : (ixT (ones a b 128) t).isSome = (decide (a ≤ t) && decide (t < b)) := by
  rw [ixT_isSome, Bool.eq_iff_iff, List.contains_iff_mem, seq_ones a b 128 (Nat.le_refl _)]
  simp only [Bool.and_eq_true, decide_eq_true_eq]
  omega
theorem norm_congr {p q : Int → Bool} (h : ∀ t : Int, 0 ≤ t → t < 128 → p t = q t) : norm p = norm q := normTo_congr 128 fun i hi => h i (by omega) (by omega)
/-- The free tracks. -/
def freeS (first last : Int) (u : List Run) : List Run := norm fun t => (decide (first ≤ t) && decide (t < last)) && !(ixT u t).isSome

theorem r_Free6 (a b : Int) (B : Option Addr) (cb : Nat) (u : List Run) (w : World) (hB : Runs w B u) :
    Calls Tryz.prog 110 #[.int .i64 a, .int .i64 b, .slice B u.length cb] w fun e w' => ∃ v, e = .returned v ∧ OwnRuns w w' v (freeS a b u) ∧ Ext w w' := by
  have hu := Tryz.underlying68
  go_enter Tryz.func110, Tryz.ntmps110
  go_wp2
  go_loopg [7, 8] 128 (fun g v i wr => ∃ k : Nat, k + g = 128 ∧ i = .int .i64 k ∧ wr.ownsRow w.heap.size 68 2 v (ones a b k).length ((ones a b k).flatMap runCells) ∧ Ext w wr)
  case atStart => exact ⟨0, by omega, rfl, own_new w w.heap.size _ _ (Nat.le_refl _), (Ext.refl w).alloc _⟩
  case round =>
    obtain ⟨k, hk, rfl, ho, hx⟩ := hrel
    have hk := Lib.hid hk
    rcases Nat.lt_or_ge k 128 with hlt | hge
    · have hlen := ones_len a b k
      by_cases h1 : a ≤ (k : Int)
      · by_cases h2 : (k : Int) < b
        · have hs := Lib.hid (ones_yes a b k h1 h2)
          go_wp2_with (at_builtin; refine app2 w.heap.size rfl _ _ _ 68 (.agg #[.int .i64 0, .int .i64 0]) 2 16 rfl Tryz.underlying41 run_info rfl (by omega) (by omega) u7 _ _ (runCells ⟨(k : Int), 1⟩) rfl (by simp [Value.oneCell', runCells]) rfl _ rfl (by simp) ho hx.le (by omega) ?_; intro v1 w2 ho3 hg)
          go_roundg (128 - k - 1)
          case measure => have := hk.out; omega
          case rel => exact ⟨k + 1, by omega, by go_num, by rw [hs.out, List.length_append, List.flatMap_append]; simpa using ho3, hx.own ho hg⟩
        · have hs := Lib.hid (ones_no a b k (by omega))
          go_wp2
          go_roundg (128 - k - 1)
          case measure => have := hk.out; omega
          case rel => exact ⟨k + 1, by omega, by go_num, by rw [hs.out]; exact ho, hx⟩
      · have hs := Lib.hid (ones_no a b k (by omega))
        go_wp2
        go_roundg (128 - k - 1)
        case measure => have := hk.out; omega
        case rel => exact ⟨k + 1, by omega, by go_num, by rw [hs.out]; exact ho, hx⟩
    · obtain rfl : k = 128 := by have := hk.out; omega
      obtain ⟨C, cc, rfl, _⟩ := own_slice ho
      have hlen := ones_len a b 128
      have hR : Runs wr C (ones a b 128) := ⟨Sl.own ho, ones_ok a b 128 (Nat.le_refl _), by omega⟩
      go_wp2_with fail
      refine (r_minus C B cc cb (ones a b 128) u _ hR (hB.ext hx)).mono ?_
      rintro e w1 ⟨v, rfl, hv, hx1⟩
      go_wp2
      go_ret
      refine ⟨v, rfl, ?_, hx.trans hx1⟩
      have he : (norm fun t => (ixT (ones a b 128) t).isSome && !(ixT u t).isSome) = freeS a b u := norm_congr fun t h0 h1 => by rw [ixT_ones a b t h0 h1]
      rw [he] at hv
      exact ⟨hv.1, hv.2.imp id (fun ⟨g, cap, cur, h1, h2, h3⟩ => ⟨g, cap, cur, h1, Nat.le_trans hx.le h2, h3⟩)⟩
end Go.Proofs.YtjdmgpefjehkaaaGreatDoor
