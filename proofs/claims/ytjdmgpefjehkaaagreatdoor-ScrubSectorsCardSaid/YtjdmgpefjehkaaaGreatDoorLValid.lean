/- The conditions of label.Valid, one closure each: the plain ones (1 to 4) and the test of one run (6.1). The fifth condition of label.Valid: the extents are joined, and no track occurs twice. The fifth condition of label.Valid where the extents are not joined, and in general. The sixth condition of label.Valid: slices.ContainsFunc at runs, with the closure that tests one run. The contract of label.Valid. -/
import Derived.Test.YtjdmgpefjehkaaaGreatDoorSmall
import Derived.Test.YtjdmgpefjehkaaaGreatDoorTab
import Derived.Test.YtjdmgpefjehkaaaGreatDoorVSet
import Derived.Test.YtjdmgpefjehkaaaGreatDoorLabEq
import Derived.Deep.RegionHeld3
import Derived.Test.YtjdmgpefjehkaaaGreatDoorRef05
import Derived.Test.YtjdmgpefjehkaaaGreatDoorExtent
import Derived.Test.YtjdmgpefjehkaaaGreatDoorMaps
import Derived.Laws.EntriesVeiled
namespace Go.Proofs.YtjdmgpefjehkaaaGreatDoor
open Go.RowKit
attribute [local go_sem] Instr.field asAgg
set_option maxRecDepth 100000

theorem p_v1 (g : Nat) (n : Int) (w : World) (h0 : w.cell? ⟨g, 0, none⟩ = some (.int .i64 n)) :
    Calls Tryz.prog 65 #[.pointer (some ⟨g, 0, none⟩)] w fun e w' => e = .returned (.bool (okT n)) ∧ w = w' := by
  have HC := fun w => p_tracksOK n w
  go_enter Tryz.func65, Tryz.ntmps65
  go_wp2_with (go_at_call 59; refine (HC _).mono ?_; rintro e w' ⟨rfl, rfl⟩)
  go_ret
  exact ⟨rfl, rfl⟩
def c2 (l : Label) : Bool := decide (1 ≤ l.id) && decide (l.id ≤ 1099511627776) && decide (0 ≤ l.unit) && decide (l.unit ≤ 1099511627776)
theorem p_v2 (g : Nat) (l : Label) (w : World) (h0 : w.cell? ⟨g, 0, none⟩ = some (.int .i64 l.id)) (h1 : w.cell? ⟨g, 1, none⟩ = some (.int .i64 l.unit)) :
    Calls Tryz.prog 66 #[.pointer (some ⟨g, 0, none⟩)] w fun e w' => e = .returned (.bool (c2 l)) ∧ w = w' := by
  have hu := Tryz.underlying43
  go_enter Tryz.func66, Tryz.ntmps66
  go_wp2
  all_goals
    go_ret
    refine ⟨congrArg (fun b => Ending.returned (Value.bool b)) (?_ : _ = c2 l), rfl⟩
    unfold c2
    rw [Bool.eq_iff_iff]
    simp
    try omega
def c3 (l : Label) : Bool := decide (l.name.size ≤ 31) && decide (l.note.size ≤ 400)
theorem p_v3 (g : Nat) (l : Label) (w : World) (h2 : w.cell? ⟨g, 2, none⟩ = some (.string l.name)) (h3 : w.cell? ⟨g, 3, none⟩ = some (.string l.note)) :
    Calls Tryz.prog 67 #[.pointer (some ⟨g, 0, none⟩)] w fun e w' => e = .returned (.bool (c3 l)) ∧ w = w' := by
  have hu := Tryz.underlying43
  go_enter Tryz.func67, Tryz.ntmps67
  go_wp2
  all_goals
    go_ret
    refine ⟨congrArg (fun b => Ending.returned (Value.bool b)) (?_ : _ = c3 l), rfl⟩
    unfold c3
    rw [Bool.eq_iff_iff]
    simp
    try omega
def c4 (l : Label) : Bool := decide (1 ≤ l.ext.length) && decide (l.ext.length ≤ 16)
theorem p_v4 (g : Nat) (l : Label) (A : Option Addr) (c : Nat) (w : World) (h4 : w.cell? ⟨g, 4, none⟩ = some (.slice A l.ext.length c)) :
    Calls Tryz.prog 68 #[.pointer (some ⟨g, 0, none⟩)] w fun e w' => e = .returned (.bool (c4 l)) ∧ w = w' := by
  have hu := Tryz.underlying43
  go_enter Tryz.func68, Tryz.ntmps68
  go_wp2
  all_goals
    go_ret
    refine ⟨congrArg (fun b => Ending.returned (Value.bool b)) (?_ : _ = c4 l), rfl⟩
    unfold c4
    rw [Bool.eq_iff_iff]
    simp
    try omega
def outR (first tracks : Int) (r : Run) : Bool := decide (r.f < first) || decide (tracks < r.f + r.c)
theorem p_v61 (ga gb : Nat) (first tracks : Int) (r : Run) (hs : I64 (r.f + r.c)) (w : World) (h0 : w.cell? ⟨ga, 0, none⟩ = some (.int .i64 first)) (h1 : w.cell? ⟨gb, 0, none⟩ = some (.int .i64 tracks)) :
    Calls Tryz.prog 74 #[.agg #[.int .i64 r.f, .int .i64 r.c], .pointer (some ⟨ga, 0, none⟩), .pointer (some ⟨gb, 0, none⟩)] w fun e w' => e = .returned (.bool (outR first tracks r)) ∧ Ext w w' := by
  have hu := Tryz.underlying68
  obtain ⟨s1, s2⟩ := hs
  have b0 := World.block_lt_of_cell? w _ h0
  have b1 := World.block_lt_of_cell? w _ h1
  dsimp only at b0 b1
  have hx := (Ext.refl w).alloc (.cells #[.int .i64 r.f, .int .i64 r.c] 68)
  go_enter Tryz.func74, Tryz.ntmps74
  go_wp2
  all_goals
    go_ret
    refine ⟨congrArg (fun b => Ending.returned (Value.bool b)) (?_ : _ = outR first tracks r), hx⟩
    unfold outR
    first | (rw [Bool.eq_iff_iff]; simp; omega) | (rw [Bool.eq_iff_iff]; simp; done) | (rw [Bool.eq_iff_iff]; done) | rfl
end Go.Proofs.YtjdmgpefjehkaaaGreatDoor
namespace Go.Proofs.YtjdmgpefjehkaaaGreatDoor
open Go.RowKit
attribute [local go_sem] Instr.field asAgg
set_option maxRecDepth 100000

theorem joinT_ok (rs : List Run) : JBd (joinT rs) ∧ (joinT rs).length ≤ rs.length := by
  have h : ∀ k, k ≤ rs.length → JBd (joinT (rs.take k)) ∧ (joinT (rs.take k)).length ≤ k := by
    intro k
    induction k with
    | zero => intro _; exact ⟨fun q hq => absurd hq (by simp [joinT]), by simp [joinT]⟩
    | succ k ih =>
      intro hk
      obtain ⟨i1, i2⟩ := ih (by omega)
      obtain ⟨hb1, hb2, hb3⟩ := clip_bd rs[k]
      rw [joinT_take rs k (by omega)]
      refine ⟨joinS_bd _ _ i1 hb1 (by omega) (by omega), ?_⟩
      have := joinS_len (joinT (rs.take k)) (clip rs[k])
      omega
  have := h rs.length (Nat.le_refl _)
  rwa [List.take_length] at this
theorem p_JoinR (A : Option Addr) (cap : Nat) (rs : List Run) (w : World) (hA : Runs w A rs) (hsm : (rs.length : Int) ≤ 1000000000) :
    Calls Tryz.prog 71 #[.slice A rs.length cap] w fun e w' => ∃ B c, e = .returned (.slice B (joinT rs).length c) ∧ Runs w' B (joinT rs) ∧ Ext w w' := by
  refine (p_Join A cap rs w hA hsm).mono ?_
  rintro e w1 ⟨v, rfl, ho, hx⟩
  obtain ⟨j1, j2⟩ := joinT_ok rs
  obtain ⟨B, c, rfl, _, hR⟩ := ho.runs (fun r hr => by have := j1 r hr; exact ⟨⟨by omega, by omega⟩, ⟨by omega, by omega⟩⟩) (by omega)
  exact ⟨B, c, rfl, hR, hx⟩
def c5 (l : Label) : Bool := decide (joinT l.ext = l.ext) && decide (seq l.ext).Nodup
set_option maxHeartbeats 1000000 in
theorem p_v5_yes (g : Nat) (l : Label) (A : Option Addr) (c : Nat) (w : World) (hA : Runs w A l.ext) (hsm : (l.ext.length : Int) ≤ 1000000000) (h4 : w.cell? ⟨g, 4, none⟩ = some (.slice A l.ext.length c)) (hj : joinT l.ext = l.ext) :
    Calls Tryz.prog 69 #[.pointer (some ⟨g, 0, none⟩)] w fun e w' => e = .returned (.bool (c5 l)) ∧ Ext w w' := by
  have hu := Tryz.underlying43
  have hx : Ext w w.drew := (Ext.refl w).drewN 1
  have hq := Lib.hid (show c5 l = decide (seq l.ext).Nodup by simp [c5, hj])
  have HJ := fun w h => p_JoinR A c l.ext w h hsm
  have HE := fun B cb w h1 h2 => p_sleq B A cb c l.ext l.ext w h1 h2
  have HD := fun w h => p_Disjoint A c l.ext w h
  rw [hj] at HJ
  clear hj
  go_enter Tryz.func69, Tryz.ntmps69
  go_wp2_with fail
  go_region_held3 (fun w' => w'.cell? ⟨g, 4, none⟩ = some (.slice A l.ext.length c)) (first | exact hy.cell (by assumption) | go_keep) (first | (go_at_call 71; refine (HJ _ (hA.ext hx)).mono ?_; rintro e w7 ⟨B, cb, rfl, hB, hy⟩; have hx := hx.trans hy) | (go_at_call 70; refine (HE _ _ _ hB (hA.ext hx)).mono ?_; rintro e w8 ⟨rfl, hy⟩; have hx := hx.trans hy) | (go_at_call 43; refine (HD _ (hA.ext hx)).mono ?_; rintro e w9 ⟨rfl, hy⟩; have hx := hx.trans hy))
  go_wp2
  go_ret
  exact ⟨by rw [hq.out]; simp, hx⟩
end Go.Proofs.YtjdmgpefjehkaaaGreatDoor
namespace Go.Proofs.YtjdmgpefjehkaaaGreatDoor
open Go.RowKit
attribute [local go_sem] Instr.field asAgg
set_option maxRecDepth 100000

set_option linter.unusedSimpArgs false in
set_option maxHeartbeats 1000000 in
theorem p_v5_no (g : Nat) (l : Label) (A : Option Addr) (c : Nat) (w : World) (hA : Runs w A l.ext) (hsm : (l.ext.length : Int) ≤ 1000000000) (h4 : w.cell? ⟨g, 4, none⟩ = some (.slice A l.ext.length c)) (hj : joinT l.ext ≠ l.ext) :
    Calls Tryz.prog 69 #[.pointer (some ⟨g, 0, none⟩)] w fun e w' => e = .returned (.bool (c5 l)) ∧ Ext w w' := by
  have hu := Tryz.underlying43
  have hx : Ext w w.drew := (Ext.refl w).drewN 1
  have hq := Lib.hid (show c5 l = false by simp [c5, hj])
  have HJ := fun w h => p_JoinR A c l.ext w h hsm
  have HE := fun B cb w h1 h2 => p_sleq B A cb c (joinT l.ext) l.ext w h1 h2
  rw [decide_eq_false hj] at HE
  clear hj
  go_enter Tryz.func69, Tryz.ntmps69
  go_wp2_with fail
  refine wp_region_held_drew (S := (fun w' : World => w'.cell? ⟨g, 4, none⟩ = some (.slice A l.ext.length c))) (by kernel_rfl) h4 (fun hHeld => ?_)
  refine wpAnyH_take (i := 0) (v := ?_) rfl (by kernel_rfl) (by kernel_rfl) (by kernel_rfl) (fun _ _ _ h => h) (Or.inl ⟨by rfl, ?_⟩) (by assumption) ?_
  rotate_left 1
  · intro w hSw
    try dsimp only at hSw
    first | (go_simp; done) | (go_simp; with_reducible rfl)
  change wpAnyH _ _ _ _ _ _ _ (Act.put _ (some 2) _) _
  simp only [Act.put, List.setIfInBounds_toArray, List.set_cons_zero, List.set_cons_succ]
  refine wpAnyH_take (i := 1) (v := ?_) rfl (by kernel_rfl) (by kernel_rfl) (by kernel_rfl) (fun _ _ _ h => h) (Or.inl ⟨by rfl, ?_⟩) (by assumption) ?_
  rotate_left 1
  · intro w hSw
    try dsimp only at hSw
    first | (go_simp; done) | (go_simp; with_reducible rfl)
  change wpAnyH _ _ _ _ _ _ _ (Act.put _ (some 3) _) _
  simp only [Act.put, List.setIfInBounds_toArray, List.set_cons_zero, List.set_cons_succ]
  refine wpAnyH_take (i := 3) (v := ?_) rfl (by kernel_rfl) (by kernel_rfl) (by kernel_rfl) (fun _ _ _ h => h) (Or.inl ⟨by rfl, ?_⟩) (by assumption) ?_
  rotate_left 1
  · intro w hSw
    try dsimp only at hSw
    first | (go_simp; done) | (go_simp; with_reducible rfl)
  change wpAnyH _ _ _ _ _ _ _ (Act.put _ (some 5) _) _
  simp only [Act.put, List.setIfInBounds_toArray, List.set_cons_zero, List.set_cons_succ]
  refine wpAnyH_take (i := 4) (v := ?_) rfl (by kernel_rfl) (by kernel_rfl) (by kernel_rfl) (fun _ _ _ h => h) (Or.inl ⟨by rfl, ?_⟩) (by assumption) ?_
  rotate_left 1
  · intro w hSw
    try dsimp only at hSw
    first | (go_simp; done) | (go_simp; with_reducible rfl)
  change wpAnyH _ _ _ _ _ _ _ (Act.put _ (some 6) _) _
  simp only [Act.put, List.setIfInBounds_toArray, List.set_cons_zero, List.set_cons_succ]
  refine wpAnyH_ready (rs := [2]) (by kernel_rfl) (by simp) ?_
  refine AllReadyH.cons rfl (fun K hK => ?_) AllReadyH.nil
  go_simp
  go_at_call 71
  refine (HJ _ (hA.ext hx)).mono ?_
  rintro e w7 ⟨B, cb, rfl, hB, hy⟩
  have hx := hx.trans hy
  refine hK.out _ _ ?_ (fun hHeld => ?_)
  · exact hy.cell (by assumption)
  clear hK K
  try simp only [Act.put, List.setIfInBounds_toArray, List.set_cons_zero, List.set_cons_succ]
  refine wpAnyH_ready (rs := [5]) (by kernel_rfl) (by simp) ?_
  refine AllReadyH.cons rfl (fun K hK => ?_) AllReadyH.nil
  go_simp
  go_at_call 70
  refine (HE _ _ _ hB (hA.ext hx)).mono ?_
  rintro e w8 ⟨rfl, hy⟩
  have hx := hx.trans hy
  refine hK.out _ _ ?_ (fun hHeld => ?_)
  · exact hy.cell (by assumption)
  clear hK K
  try simp only [Act.put, List.setIfInBounds_toArray, List.set_cons_zero, List.set_cons_succ]
  refine wpAnyH_take (i := 6) (v := ?_) rfl (by kernel_rfl) (by kernel_rfl) (by kernel_rfl) (fun _ _ _ h => h) (Or.inl ⟨by rfl, ?_⟩) (by assumption) ?_
  rotate_left 1
  · intro w hSw
    try dsimp only at hSw
    first | (go_simp; done) | (go_simp; with_reducible rfl)
  change wpAnyH _ _ _ _ _ _ _ (Act.put _ (some 8) _) _
  simp only [Act.put, List.setIfInBounds_toArray, List.set_cons_zero, List.set_cons_succ]
  refine wpAnyH_take (i := 7) (v := undef) rfl (by kernel_rfl) (by kernel_rfl) (by kernel_rfl) (fun _ _ _ h => h) (Or.inr ⟨by rfl, rfl⟩) (by assumption) ?_
  change wpAnyH _ _ _ _ _ _ _ (Act.put _ (some 9) _) _
  simp only [Act.put, List.setIfInBounds_toArray, List.set_cons_zero, List.set_cons_succ]
  refine wpAnyH_take (i := 8) (v := undef) rfl (by kernel_rfl) (by kernel_rfl) (by kernel_rfl) (fun _ _ _ h => h) (Or.inr ⟨by rfl, rfl⟩) (by assumption) ?_
  change wpAnyH _ _ _ _ _ _ _ (Act.put _ (some 10) _) _
  simp only [Act.put, List.setIfInBounds_toArray, List.set_cons_zero, List.set_cons_succ]
  refine wpAnyH_take (i := 9) (v := undef) rfl (by kernel_rfl) (by kernel_rfl) (by kernel_rfl) (fun _ _ _ h => h) (Or.inr ⟨by rfl, rfl⟩) (by assumption) ?_
  change wpAnyH _ _ _ _ _ _ _ (Act.put _ (some 11) _) _
  simp only [Act.put, List.setIfInBounds_toArray, List.set_cons_zero, List.set_cons_succ]
  refine wpAnyH_take (i := 10) (v := ?_) rfl (by kernel_rfl) (by kernel_rfl) (by kernel_rfl) (fun _ _ _ h => h) (Or.inl ⟨by rfl, ?_⟩) (by assumption) ?_
  rotate_left 1
  · intro w hSw
    try dsimp only at hSw
    first | (go_simp; done) | (go_simp; with_reducible rfl)
  change wpAnyH _ _ _ _ _ _ _ (Act.put _ (some 12) _) _
  simp only [Act.put, List.setIfInBounds_toArray, List.set_cons_zero, List.set_cons_succ]
  refine wpAnyH_take (i := 11) (v := ?_) rfl (by kernel_rfl) (by kernel_rfl) (by kernel_rfl) (fun _ _ _ h => h) (Or.inl ⟨by rfl, ?_⟩) (by assumption) ?_
  rotate_left 1
  · intro w hSw
    try dsimp only at hSw
    first | (go_simp; done) | (go_simp; with_reducible rfl)
  change wpAnyH _ _ _ _ _ _ _ (Act.put _ (some 1) _) _
  simp only [Act.put, List.setIfInBounds_toArray, List.set_cons_zero, List.set_cons_succ]
  refine wpAnyH_done (by kernel_rfl) ?_ _
  go_wp2
  go_ret
  exact ⟨by rw [hq.out]; rfl, hx⟩
theorem p_v5 (g : Nat) (l : Label) (A : Option Addr) (c : Nat) (w : World) (hA : Runs w A l.ext) (hsm : (l.ext.length : Int) ≤ 1000000000) (h4 : w.cell? ⟨g, 4, none⟩ = some (.slice A l.ext.length c)) :
    Calls Tryz.prog 69 #[.pointer (some ⟨g, 0, none⟩)] w fun e w' => e = .returned (.bool (c5 l)) ∧ Ext w w' := by
  by_cases hj : joinT l.ext = l.ext
  · exact p_v5_yes g l A c w hA hsm h4 hj
  · exact p_v5_no g l A c w hA hsm h4 hj
end Go.Proofs.YtjdmgpefjehkaaaGreatDoor
namespace Go.Proofs.YtjdmgpefjehkaaaGreatDoor
open Go.RowKit
attribute [local go_sem] Instr.field asAgg
set_option maxRecDepth 100000

theorem p_IxOut (A : Option Addr) (c : Nat) (rs : List Run) (ga gb : Nat) (first tracks : Int) (hs : ∀ r ∈ rs, I64 (r.f + r.c)) (w : World) (hA : Runs w A rs) (h0 : w.cell? ⟨ga, 0, none⟩ = some (.int .i64 first)) (h1 : w.cell? ⟨gb, 0, none⟩ = some (.int .i64 tracks)) :
    Calls Tryz.prog 91 #[.slice A rs.length c, .func (.func 74) #[] #[.pointer (some ⟨ga, 0, none⟩), .pointer (some ⟨gb, 0, none⟩)]] w fun e w' => ∃ n : Int, e = .returned (.int .i64 n) ∧ decide (0 ≤ n) = rs.any (outR first tracks) ∧ Ext w w' := by
  have hu := Tryz.underlying68
  have hlen := hA.len
  go_enter Tryz.func91, Tryz.ntmps91
  go_wp2
  go_loopg [8] rs.length (fun gk i wr => ∃ k : Nat, k + gk = rs.length ∧ i = .int .i64 k ∧ Hid (∀ j (h : j < rs.length), j < k → outR first tracks rs[j] = false) ∧ Ext w wr)
  case atStart => exact ⟨0, by omega, rfl, fun j _ h => by omega, Ext.refl _⟩
  case round =>
    obtain ⟨k, hk, rfl, hn, hx⟩ := hrel
    have hk := Lib.hid hk
    rcases Nat.lt_or_ge k rs.length with hlt | hge
    · obtain ⟨b, o, rfl, a0, a1⟩ := (hA.ext hx).at_ hlt
      have hno := fun h => Lib.hid (all_snoc (P := fun r : Run => outR first tracks r = false) hn.out hlt h)
      have HP := fun w => p_v61 ga gb first tracks rs[k] (hs _ (List.getElem_mem hlt)) w
      go_wp2_with fail
      refine (HP _ (hx.cell h0) (hx.cell h1)).mono ?_
      clear HP
      rintro e w1 ⟨rfl, hx1⟩
      cases hq : outR first tracks rs[k] with
      | true =>
        have hany : rs.any (outR first tracks) = true := List.any_eq_true.2 ⟨_, List.getElem_mem hlt, hq⟩
        have hany := Lib.hid hany
        clear hno
        have hq2 := Lib.hid hq
        clear hq
        go_wp2
        go_ret
        exact ⟨k, rfl, by rw [hany.out]; exact decide_eq_true (by omega), hx.trans hx1⟩
      | false =>
        have hf := hno hq
        clear hno
        have hq2 := Lib.hid hq
        clear hq
        go_wp2
        go_roundg (rs.length - k - 1)
        case measure => have := hk.out; omega
        case rel => exact ⟨k + 1, by omega, by go_num, hf.out, hx.trans hx1⟩
    · have hany : Hid (rs.any (outR first tracks) = false) := by
        rw [List.any_eq_false]
        intro r hr
        obtain ⟨j, hj, rfl⟩ := List.getElem_of_mem hr
        simp [hn.out j hj (by omega)]
      go_wp2
      go_ret
      exact ⟨-1, rfl, by rw [hany.out]; rfl, hx⟩
theorem p_ContainsOut (A : Option Addr) (c : Nat) (rs : List Run) (ga gb : Nat) (first tracks : Int) (hs : ∀ r ∈ rs, I64 (r.f + r.c)) (w : World) (hA : Runs w A rs) (h0 : w.cell? ⟨ga, 0, none⟩ = some (.int .i64 first)) (h1 : w.cell? ⟨gb, 0, none⟩ = some (.int .i64 tracks)) :
    Calls Tryz.prog 73 #[.slice A rs.length c, .func (.func 74) #[] #[.pointer (some ⟨ga, 0, none⟩), .pointer (some ⟨gb, 0, none⟩)]] w fun e w' => e = .returned (.bool (rs.any (outR first tracks))) ∧ Ext w w' := by
  go_enter Tryz.func73, Tryz.ntmps73
  go_wp2_with fail
  refine (p_IxOut A c rs ga gb first tracks hs _ hA h0 h1).mono ?_
  rintro e w1 ⟨n, rfl, hn, hx⟩
  have hn := Lib.hid hn
  go_wp2
  go_ret
  exact ⟨by rw [← hn.out]; rfl, hx⟩
def c6 (first tracks : Int) (l : Label) : Bool := !l.ext.any (outR first tracks)
theorem run_fun74 : ∀ (w : World) (a b : Value), (Instr.makeFunc (.func 74) #[] #[a, b]).run Tryz.prog w = .ok (.func (.func 74) #[] #[a, b]) w := fun _ _ _ => rfl
theorem p_v6 (g ga gb : Nat) (first tracks : Int) (l : Label) (A : Option Addr) (c : Nat) (hs : ∀ r ∈ l.ext, I64 (r.f + r.c)) (w : World) (hA : Runs w A l.ext) (h4 : w.cell? ⟨g, 4, none⟩ = some (.slice A l.ext.length c)) (h0 : w.cell? ⟨ga, 0, none⟩ = some (.int .i64 first)) (h1 : w.cell? ⟨gb, 0, none⟩ = some (.int .i64 tracks)) :
    Calls Tryz.prog 72 #[.pointer (some ⟨g, 0, none⟩), .pointer (some ⟨ga, 0, none⟩), .pointer (some ⟨gb, 0, none⟩)] w fun e w' => e = .returned (.bool (c6 first tracks l)) ∧ Ext w w' := by
  have hu := Tryz.underlying43
  have hmf := run_fun74
  go_enter Tryz.func72, Tryz.ntmps72
  go_wp2_with fail
  refine (p_ContainsOut A c l.ext ga gb first tracks hs _ hA h0 h1).mono ?_
  rintro e w1 ⟨rfl, hx⟩
  go_wp2
  go_ret
  exact ⟨rfl, hx⟩
end Go.Proofs.YtjdmgpefjehkaaaGreatDoor
namespace Go.Proofs.YtjdmgpefjehkaaaGreatDoor
open Go.RowKit
attribute [local go_sem] Instr.field asAgg
set_option maxRecDepth 100000

def validL (tr : Int) (l : Label) : Bool := okT tr && c2 l && c3 l && c4 l && c5 l && c6 (tt tr) tr l
def condL (tr : Int) (l : Label) : Nat → Bool
  | 0 => okT tr
  | 1 => c2 l
  | 2 => c3 l
  | 3 => c4 l
  | 4 => c5 l
  | _ => c6 (tt tr) tr l
set_option maxHeartbeats 4000000 in
theorem p_LValid (l : Label) (A : Option Addr) (c : Nat) (tr : Int) (w : World) (hA : Runs w A l.ext) (hsm : (l.ext.length : Int) ≤ 1000000000) :
    Calls Tryz.prog 42 #[.agg #[.int .i64 l.id, .int .i64 l.unit, .string l.name, .string l.note, .slice A l.ext.length c], .int .i64 tr] w fun e w' => e = .returned (.bool (validL tr l)) ∧ Ext w w' := by
  have hu := Tryz.underlying43
  have hmf := run_func
  have hsum : condL tr l 4 = true → ∀ r ∈ l.ext, I64 (r.f + r.c) := fun h r hr => by
    have h5 : joinT l.ext = l.ext := by
      have h' : c5 l = true := h
      simp [c5] at h'
      exact h'.1
    have := (joinT_ok l.ext).1 r (by rw [h5]; exact hr)
    exact ⟨by omega, by omega⟩
  have HT := fun w => p_tt tr w
  go_enter Tryz.func42, Tryz.ntmps42
  go_wp2_with (go_at_call 30; refine (HT _).mono ?_; rintro e w' ⟨rfl, rfl⟩)
  go_loopg [20] 6 (fun gk i wr => ∃ k : Nat, k + gk = 6 ∧ i = .int .i64 k ∧ Hid (∀ j, j < k → condL tr l j = true) ∧ Blk wr w.heap.size 43 [.int .i64 l.id, .int .i64 l.unit, .string l.name, .string l.note, .slice A l.ext.length c] ∧ Blk wr (w.heap.size + 1) 3 [.int .i64 tr] ∧ Blk wr (w.heap.size + 1 + 1) 3 [.int .i64 (tt tr)] ∧ Blk wr (w.heap.size + 1 + 1 + 1) 30 [.func (.func 65) #[] #[.pointer (some ⟨w.heap.size + 1, 0, none⟩)], .func (.func 66) #[] #[.pointer (some ⟨w.heap.size, 0, none⟩)], .func (.func 67) #[] #[.pointer (some ⟨w.heap.size, 0, none⟩)], .func (.func 68) #[] #[.pointer (some ⟨w.heap.size, 0, none⟩)], .func (.func 69) #[] #[.pointer (some ⟨w.heap.size, 0, none⟩)], .func (.func 72) #[] #[.pointer (some ⟨w.heap.size, 0, none⟩), .pointer (some ⟨w.heap.size + 1 + 1, 0, none⟩), .pointer (some ⟨w.heap.size + 1, 0, none⟩)]] ∧ Ext w wr)
  case atStart => exact ⟨0, by omega, rfl, fun j h => by omega, (((Blk.new w _ _).alloc _).alloc _).alloc _, ((Blk.new_at (by simp) _ _).alloc _).alloc _, (Blk.new_at (by simp) _ _).alloc _, Blk.new_at (by simp) _ _, ((((Ext.refl w).alloc _).alloc _).alloc _).alloc _⟩
  case round =>
    obtain ⟨k, hk, rfl, hc, hL, hQ, hF, hS, hx⟩ := hrel
    have s0 := hS.cell 0 rfl
    have s1 := hS.cell 1 rfl
    have s2 := hS.cell 2 rfl
    have s3 := hS.cell 3 rfl
    have s4 := hS.cell 4 rfl
    have s5 := hS.cell 5 rfl
    have hk7 : k = 0 ∨ k = 1 ∨ k = 2 ∨ k = 3 ∨ k = 4 ∨ k = 5 ∨ k = 6 := by omega
    rcases hk7 with rfl | rfl | rfl | rfl | rfl | rfl | rfl
    · go_wp2_with fail
      · refine (p_v1 (w.heap.size + 1) tr _ (hQ.cell 0 rfl)).mono ?_
        rintro e w1 ⟨rfl, rfl⟩
        have hy := Ext.refl wr
        have hx := hx.trans hy
        cases hb : okT tr with
        | false =>
          have hv : validL tr l = false := by simp [validL, hb]
          have hv := Lib.hid hv
          clear hb
          go_wp2
          go_ret
          exact ⟨by rw [hv.out]; rfl, hx⟩
        | true =>
          have hb := Lib.hid hb
          go_wp2
          go_roundg (5)
          case measure => omega
          case rel => exact ⟨1, by omega, by go_num, fun j hj => by (rcases Nat.lt_or_ge j 0 with h | h; exact hc.out j h; (obtain rfl : j = 0 := by omega); exact hb.out), hL.ext hy, hQ.ext hy, hF.ext hy, hS.ext hy, hx⟩
    · go_wp2_with fail
      · refine (p_v2 w.heap.size l _ (hL.cell 0 rfl) (hL.cell 1 rfl)).mono ?_
        rintro e w1 ⟨rfl, rfl⟩
        have hy := Ext.refl wr
        have hx := hx.trans hy
        cases hb : c2 l with
        | false =>
          have hv : validL tr l = false := by simp [validL, hb]
          have hv := Lib.hid hv
          clear hb
          go_wp2
          go_ret
          exact ⟨by rw [hv.out]; rfl, hx⟩
        | true =>
          have hb := Lib.hid hb
          go_wp2
          go_roundg (4)
          case measure => omega
          case rel => exact ⟨2, by omega, by go_num, fun j hj => by (rcases Nat.lt_or_ge j 1 with h | h; exact hc.out j h; (obtain rfl : j = 1 := by omega); exact hb.out), hL.ext hy, hQ.ext hy, hF.ext hy, hS.ext hy, hx⟩
    · go_wp2_with fail
      · refine (p_v3 w.heap.size l _ (hL.cell 2 rfl) (hL.cell 3 rfl)).mono ?_
        rintro e w1 ⟨rfl, rfl⟩
        have hy := Ext.refl wr
        have hx := hx.trans hy
        cases hb : c3 l with
        | false =>
          have hv : validL tr l = false := by simp [validL, hb]
          have hv := Lib.hid hv
          clear hb
          go_wp2
          go_ret
          exact ⟨by rw [hv.out]; rfl, hx⟩
        | true =>
          have hb := Lib.hid hb
          go_wp2
          go_roundg (3)
          case measure => omega
          case rel => exact ⟨3, by omega, by go_num, fun j hj => by (rcases Nat.lt_or_ge j 2 with h | h; exact hc.out j h; (obtain rfl : j = 2 := by omega); exact hb.out), hL.ext hy, hQ.ext hy, hF.ext hy, hS.ext hy, hx⟩
    · go_wp2_with fail
      · refine (p_v4 w.heap.size l A c _ (hL.cell 4 rfl)).mono ?_
        rintro e w1 ⟨rfl, rfl⟩
        have hy := Ext.refl wr
        have hx := hx.trans hy
        cases hb : c4 l with
        | false =>
          have hv : validL tr l = false := by simp [validL, hb]
          have hv := Lib.hid hv
          clear hb
          go_wp2
          go_ret
          exact ⟨by rw [hv.out]; rfl, hx⟩
        | true =>
          have hb := Lib.hid hb
          go_wp2
          go_roundg (2)
          case measure => omega
          case rel => exact ⟨4, by omega, by go_num, fun j hj => by (rcases Nat.lt_or_ge j 3 with h | h; exact hc.out j h; (obtain rfl : j = 3 := by omega); exact hb.out), hL.ext hy, hQ.ext hy, hF.ext hy, hS.ext hy, hx⟩
    · go_wp2_with fail
      · refine (p_v5 w.heap.size l A c _ (hA.ext hx) hsm (hL.cell 4 rfl)).mono ?_
        rintro e w1 ⟨rfl, hy⟩
        have hx := hx.trans hy
        cases hb : c5 l with
        | false =>
          have hv : validL tr l = false := by simp [validL, hb]
          have hv := Lib.hid hv
          clear hb
          go_wp2
          go_ret
          exact ⟨by rw [hv.out]; rfl, hx⟩
        | true =>
          have hb := Lib.hid hb
          go_wp2
          go_roundg (1)
          case measure => omega
          case rel => exact ⟨5, by omega, by go_num, fun j hj => by (rcases Nat.lt_or_ge j 4 with h | h; exact hc.out j h; (obtain rfl : j = 4 := by omega); exact hb.out), hL.ext hy, hQ.ext hy, hF.ext hy, hS.ext hy, hx⟩
    · go_wp2_with fail
      · refine (p_v6 w.heap.size (w.heap.size + 1 + 1) (w.heap.size + 1) (tt tr) tr l A c (hsum (hc.out 4 (by omega))) _ (hA.ext hx) (hL.cell 4 rfl) (hF.cell 0 rfl) (hQ.cell 0 rfl)).mono ?_
        rintro e w1 ⟨rfl, hy⟩
        have hx := hx.trans hy
        cases hb : c6 (tt tr) tr l with
        | false =>
          have hv : validL tr l = false := by simp [validL, hb]
          have hv := Lib.hid hv
          clear hb
          go_wp2
          go_ret
          exact ⟨by rw [hv.out]; rfl, hx⟩
        | true =>
          have hb := Lib.hid hb
          go_wp2
          go_roundg (0)
          case measure => omega
          case rel => exact ⟨6, by omega, by go_num, fun j hj => by (rcases Nat.lt_or_ge j 5 with h | h; exact hc.out j h; (obtain rfl : j = 5 := by omega); exact hb.out), hL.ext hy, hQ.ext hy, hF.ext hy, hS.ext hy, hx⟩
    · have hv : validL tr l = true := by
        have a0 := hc.out 0 (by omega)
        have a1 := hc.out 1 (by omega)
        have a2 := hc.out 2 (by omega)
        have a3 := hc.out 3 (by omega)
        have a4 := hc.out 4 (by omega)
        have a5 := hc.out 5 (by omega)
        simp only [condL] at a0 a1 a2 a3 a4 a5
        simp [validL, a0, a1, a2, a3, a4, a5]
      have hv := Lib.hid hv
      go_wp2
      go_ret
      exact ⟨by rw [hv.out]; rfl, hx⟩
end Go.Proofs.YtjdmgpefjehkaaaGreatDoor
