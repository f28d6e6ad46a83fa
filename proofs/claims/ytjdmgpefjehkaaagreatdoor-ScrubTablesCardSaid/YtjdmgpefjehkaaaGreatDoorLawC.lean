/- The walk of the law ScrubTables. -/
import Derived.Test.YtjdmgpefjehkaaaGreatDoorAwake
import Derived.Test.YtjdmgpefjehkaaaGreatDoorFew
import Derived.Test.YtjdmgpefjehkaaaGreatDoorTable15
import Derived.Test.YtjdmgpefjehkaaaGreatDoorSame15
import Derived.Test.YtjdmgpefjehkaaaGreatDoorBytesR
import Derived.Deep.RegionHeld3
namespace Go.Proofs.YtjdmgpefjehkaaaGreatDoor
open Go.RowKit
attribute [local go_sem] Instr.field asAgg
set_option maxRecDepth 100000

theorem few_ext2 {nm : ByteArray} {ls : List Label} (h : fewT nm ls = true) : (∀ l ∈ ls, (l.ext.length : Int) ≤ 1000000) ∧ (ls.length : Int) ≤ 1000000 := by
  simp only [fewT, Bool.and_eq_true, List.all_eq_true, decide_eq_true_eq] at h
  refine ⟨fun l hl => ?_, by omega⟩
  have := h.1 l hl
  simp only [fewL, Bool.and_eq_true, decide_eq_true_eq] at this
  omega
theorem clean_eq (a b : Nat) : (((a : Int) + b == 0)) = (((a : Int) == 0) && ((b : Int) == 0)) := by
  rw [Bool.eq_iff_iff]
  simp
  omega
set_option linter.unusedSimpArgs false in
set_option maxHeartbeats 4000000 in
theorem w_ScrubTables (nm : ByteArray) (tr : Int) (A : Option Addr) (c : Nat) (ls : List Label) (x : Scrub) (B2 B3 B4 : Option Addr) (k2 k3 k4 : Nat) (w : World) (hA : Labels w A ls) (_hX : ScrubOk w x B2 B3 B4) (ht : Tab10 w) :
    Calls Tryz.prog 3 #[.agg #[.string nm, .int .i64 tr, .slice A ls.length c], .agg #[.int .i64 x.free, .int .i64 x.used, .slice B2 x.tent.length k2, .slice B3 x.shared.length k3, .slice B4 x.bad.length k4]] w fun e w' => e = .returned (.bool true) ∧ Ext w w' := by
  have hu := Tryz.underlying24
  have hu2 := Tryz.underlying29
  have hB0 := (Blk.new w 24 [.string nm, .int .i64 tr, .slice A ls.length c]).alloc (.cells #[.int .i64 x.free, .int .i64 x.used, .slice B2 x.tent.length k2, .slice B3 x.shared.length k3, .slice B4 x.bad.length k4] 29)
  have hC0 := Blk.new_at (g := w.heap.size + 1) (w := w.alloc (.cells #[.string nm, .int .i64 tr, .slice A ls.length c] 24)) (by simp) 29 [.int .i64 x.free, .int .i64 x.used, .slice B2 x.tent.length k2, .slice B3 x.shared.length k3, .slice B4 x.bad.length k4]
  have hx0 := ((Ext.refl w).alloc (.cells #[.string nm, .int .i64 tr, .slice A ls.length c] 24)).alloc (.cells #[.int .i64 x.free, .int .i64 x.used, .slice B2 x.tent.length k2, .slice B3 x.shared.length k3, .slice B4 x.bad.length k4] 29)
  have HF := fun w => r_few08 nm tr A c ls w
  have HG := fun w => r_few15 x B2 B3 B4 k2 k3 k4 w
  go_enter Tryz.func3, Tryz.ntmps3
  go_wp2_with fail
  refine (p_awake _ (ht.ext hx0)).mono ?_
  rintro e w1 ⟨rfl, hx1⟩
  have hB1 := hB0.ext hx1
  have hC1 := hC0.ext hx1
  have hx2 := hx0.trans hx1
  have a0 := hB1.cell 0 rfl
  have a1 := hB1.cell 1 rfl
  have a2 := hB1.cell 2 rfl
  cases hf : fewT nm ls with
  | false =>
    rw [hf] at HF
    have hf2 := Lib.hid hf
    clear hf
    go_wp2_with (go_at_call 7; refine (HF _ (hA.ext hx2)).mono ?_; clear HF; rintro e w3 ⟨rfl, hx3⟩)
    refine (p_awake _ (ht.ext (hx2.trans hx3))).mono ?_
    rintro e w4 ⟨rfl, hx4⟩
    go_wp2
    go_ret
    exact ⟨rfl, (hx2.trans hx3).trans hx4⟩
  | true =>
    obtain ⟨hse, hsm⟩ := few_ext2 hf
    rw [hf] at HF
    have hf2 := Lib.hid hf
    clear hf
    go_wp2_with fail
    refine (HF _ (hA.ext hx2)).mono ?_
    clear HF
    rintro e w3 ⟨rfl, hx3⟩
    have hB3 := hB1.ext hx3
    have hC3 := hC1.ext hx3
    have hx4 := hx2.trans hx3
    clear a0 a1 a2
    have b0 := hC3.cell 0 rfl
    have b1 := hC3.cell 1 rfl
    have b2 := hC3.cell 2 rfl
    have b3 := hC3.cell 3 rfl
    have b4 := hC3.cell 4 rfl
    cases hg : fewX x with
    | false =>
      rw [hg] at HG
      have hg2 := Lib.hid hg
      clear hg
      go_wp2_with (go_at_call 8; refine (HG _).mono ?_; clear HG; rintro e w5 ⟨rfl, hx5⟩)
      refine (p_awake _ (ht.ext (hx4.trans hx5))).mono ?_
      rintro e w6 ⟨rfl, hx6⟩
      go_wp2
      go_ret
      exact ⟨rfl, (hx4.trans hx5).trans hx6⟩
    | true =>
      have HC := fun w => p_Clean x.free x.used B2 B3 B4 x.tent.length k2 x.shared.length k3 x.bad.length k4 (by simp [fewX] at hg; omega) (by simp [fewX] at hg; omega) w
      rw [clean_eq] at HC
      rw [hg] at HG
      have hg2 := Lib.hid hg
      clear hg
      go_wp2_with fail
      refine (HG _).mono ?_
      clear HG
      rintro e w5 ⟨rfl, hx5⟩
      have hB5 := hB3.ext hx5
      have hC5 := hC3.ext hx5
      have hx := (hx4.trans hx5).drew
      clear b0 b1 b2 b3 b4
      have a0 := hB5.cell 0 rfl
      have a1 := hB5.cell 1 rfl
      have a2 := hB5.cell 2 rfl
      have b0 := hC5.cell 0 rfl
      have b1 := hC5.cell 1 rfl
      have b2 := hC5.cell 2 rfl
      have b3 := hC5.cell 3 rfl
      have b4 := hC5.cell 4 rfl
      have HI := fun (P Q : Option Addr) (cp cq : Nat) (w : World) h1 h2 => r_ints P Q cp cq (bytesS ls) (bytesS ls) w h1 h2
      rw [decide_eq_true rfl] at HI
      clear hx0 hx1 hx2 hx3 hx4 hx5 hB0 hC0 hB1 hC1 hB3 hC3
      cases q4 : ((x.bad.length : Int) == 0) <;> cases q3 : ((x.shared.length : Int) == 0)
      case false.true | true.true =>
        rw [q3, q4] at HC
        clear hB5 hC5
        go_wp2_with fail
        go_region_held3 (fun w' => w'.cell? ⟨w.heap.size, 0, none⟩ = some (.string nm) ∧ w'.cell? ⟨w.heap.size, 1, none⟩ = some (.int .i64 tr) ∧ w'.cell? ⟨w.heap.size, 2, none⟩ = some (.slice A ls.length c) ∧ w'.cell? ⟨w.heap.size + 1, 0, none⟩ = some (.int .i64 x.free) ∧ w'.cell? ⟨w.heap.size + 1, 1, none⟩ = some (.int .i64 x.used) ∧ w'.cell? ⟨w.heap.size + 1, 2, none⟩ = some (.slice B2 x.tent.length k2) ∧ w'.cell? ⟨w.heap.size + 1, 3, none⟩ = some (.slice B3 x.shared.length k3) ∧ w'.cell? ⟨w.heap.size + 1, 4, none⟩ = some (.slice B4 x.bad.length k4)) (first | (go_split_ands; exact ⟨hy.cell (by assumption), hy.cell (by assumption), hy.cell (by assumption), hy.cell (by assumption), hy.cell (by assumption), hy.cell (by assumption), hy.cell (by assumption), hy.cell (by assumption)⟩) | go_keep) (first | (go_at_call 10; refine (p_Table nm tr A c ls hsm hse _ (hA.ext hx)).mono ?_; rintro e w7 ⟨P2, p2, P3, p3, rfl, hS1, hy⟩; have hx := hx.trans hy) | (go_at_call 11; refine (r_Table15 nm tr A c ls hsm hse _ (hA.ext hx)).mono ?_; rintro e w8 ⟨Q2, q2, Q3, q3, rfl, hS2, hy⟩; have hx := hx.trans hy; have hS1 := hS1.ext hy) | (go_at_call 9; refine (r_same15 (scrubS tr ls) P2 P3 Q2 Q3 p2 p3 q2 q3 _ hS1 hS2).mono ?_; rintro e w9 ⟨rfl, hy⟩; have hx := hx.trans hy) | (go_at_call 13; refine (p_Bytes nm tr A c ls hsm hse _ (hA.ext hx)).mono ?_; rintro e w10 ⟨U, cu, rfl, hU, hy⟩; have hx := hx.trans hy) | (go_at_call 14; refine (r_Bytes nm tr A c ls hsm hse _ (hA.ext hx)).mono ?_; rintro e w11 ⟨V, cv, rfl, hV, hy⟩; have hx := hx.trans hy; have hU := hU.ext hy) | (go_at_call 12; refine (HI _ _ _ _ _ hU hV).mono ?_; rintro e w12 ⟨rfl, hy⟩; have hx := hx.trans hy) | (go_at_call 15; refine (HC _).mono ?_; rintro e w13 ⟨rfl, hy⟩; have hx := hx.trans hy))
        go_wp2
        go_ret
        exact ⟨by simp, hx⟩
      all_goals
        rw [q3, q4] at HC
        clear hB5 hC5
        go_wp2_with fail
        refine wp_region_held_drew (S := (fun w' => w'.cell? ⟨w.heap.size, 0, none⟩ = some (.string nm) ∧ w'.cell? ⟨w.heap.size, 1, none⟩ = some (.int .i64 tr) ∧ w'.cell? ⟨w.heap.size, 2, none⟩ = some (.slice A ls.length c) ∧ w'.cell? ⟨w.heap.size + 1, 0, none⟩ = some (.int .i64 x.free) ∧ w'.cell? ⟨w.heap.size + 1, 1, none⟩ = some (.int .i64 x.used) ∧ w'.cell? ⟨w.heap.size + 1, 2, none⟩ = some (.slice B2 x.tent.length k2) ∧ w'.cell? ⟨w.heap.size + 1, 3, none⟩ = some (.slice B3 x.shared.length k3) ∧ w'.cell? ⟨w.heap.size + 1, 4, none⟩ = some (.slice B4 x.bad.length k4))) (by kernel_rfl) ⟨a0, a1, a2, b0, b1, b2, b3, b4⟩ (fun hHeld => ?_)
        refine wpAnyH_take (i := 0) (v := ?_) rfl (by kernel_rfl) (by kernel_rfl) (by kernel_rfl) (fun _ _ _ h => h) (Or.inl ⟨by rfl, ?_⟩) (by assumption) ?_
        rotate_left 1
        · intro w hSw
          try dsimp only at hSw
          go_split_ands
          first | (go_simp; done) | (go_simp; with_reducible rfl)
        try simp only [Act.put, List.setIfInBounds_toArray, List.set_cons_zero, List.set_cons_succ]
        refine wpAnyH_take (i := 2) (v := ?_) rfl (by kernel_rfl) (by kernel_rfl) (by kernel_rfl) (fun _ _ _ h => h) (Or.inl ⟨by rfl, ?_⟩) (by assumption) ?_
        rotate_left 1
        · intro w hSw
          try dsimp only at hSw
          go_split_ands
          first | (go_simp; done) | (go_simp; with_reducible rfl)
        try simp only [Act.put, List.setIfInBounds_toArray, List.set_cons_zero, List.set_cons_succ]
        refine wpAnyH_ready (rs := [1]) (by kernel_rfl) (by simp) ?_
        refine AllReadyH.cons rfl (fun K hK => ?_) AllReadyH.nil
        go_simp
        go_at_call 10
        refine (p_Table nm tr A c ls hsm hse _ (hA.ext hx)).mono ?_
        rintro e w7 ⟨P2, p2, P3, p3, rfl, hS1, hy⟩
        have hx := hx.trans hy
        refine hK.out _ _ ?_ (fun hHeld => ?_)
        · go_split_ands
          exact ⟨hy.cell (by assumption), hy.cell (by assumption), hy.cell (by assumption), hy.cell (by assumption), hy.cell (by assumption), hy.cell (by assumption), hy.cell (by assumption), hy.cell (by assumption)⟩
        clear hK K
        try simp only [Act.put, List.setIfInBounds_toArray, List.set_cons_zero, List.set_cons_succ]
        refine wpAnyH_ready (rs := [3]) (by kernel_rfl) (by simp) ?_
        refine AllReadyH.cons rfl (fun K hK => ?_) AllReadyH.nil
        go_simp
        go_at_call 11
        refine (r_Table15 nm tr A c ls hsm hse _ (hA.ext hx)).mono ?_
        rintro e w8 ⟨Q2, q2, Q3, q3, rfl, hS2, hy⟩
        have hx := hx.trans hy
        have hS1 := hS1.ext hy
        refine hK.out _ _ ?_ (fun hHeld => ?_)
        · go_split_ands
          exact ⟨hy.cell (by assumption), hy.cell (by assumption), hy.cell (by assumption), hy.cell (by assumption), hy.cell (by assumption), hy.cell (by assumption), hy.cell (by assumption), hy.cell (by assumption)⟩
        clear hK K
        try simp only [Act.put, List.setIfInBounds_toArray, List.set_cons_zero, List.set_cons_succ]
        refine wpAnyH_ready (rs := [4]) (by kernel_rfl) (by simp) ?_
        refine AllReadyH.cons rfl (fun K hK => ?_) AllReadyH.nil
        go_simp
        go_at_call 9
        refine (r_same15 (scrubS tr ls) P2 P3 Q2 Q3 p2 p3 q2 q3 _ hS1 hS2).mono ?_
        rintro e w9 ⟨rfl, hy⟩
        have hx := hx.trans hy
        refine hK.out _ _ ?_ (fun hHeld => ?_)
        · go_split_ands
          exact ⟨hy.cell (by assumption), hy.cell (by assumption), hy.cell (by assumption), hy.cell (by assumption), hy.cell (by assumption), hy.cell (by assumption), hy.cell (by assumption), hy.cell (by assumption)⟩
        clear hK K
        try simp only [Act.put, List.setIfInBounds_toArray, List.set_cons_zero, List.set_cons_succ]
        refine wpAnyH_take (i := 5) (v := ?_) rfl (by kernel_rfl) (by kernel_rfl) (by kernel_rfl) (fun _ _ _ h => h) (Or.inl ⟨by rfl, ?_⟩) (by assumption) ?_
        rotate_left 1
        · intro w hSw
          try dsimp only at hSw
          go_split_ands
          first | (go_simp; done) | (go_simp; with_reducible rfl)
        try simp only [Act.put, List.setIfInBounds_toArray, List.set_cons_zero, List.set_cons_succ]
        refine wpAnyH_take (i := 6) (v := ?_) rfl (by kernel_rfl) (by kernel_rfl) (by kernel_rfl) (fun _ _ _ h => h) (Or.inl ⟨by rfl, ?_⟩) (by assumption) ?_
        rotate_left 1
        · intro w hSw
          try dsimp only at hSw
          go_split_ands
          first | (go_simp; done) | (go_simp; with_reducible rfl)
        try simp only [Act.put, List.setIfInBounds_toArray, List.set_cons_zero, List.set_cons_succ]
        refine wpAnyH_take (i := 8) (v := ?_) rfl (by kernel_rfl) (by kernel_rfl) (by kernel_rfl) (fun _ _ _ h => h) (Or.inl ⟨by rfl, ?_⟩) (by assumption) ?_
        rotate_left 1
        · intro w hSw
          try dsimp only at hSw
          go_split_ands
          first | (go_simp; done) | (go_simp; with_reducible rfl)
        try simp only [Act.put, List.setIfInBounds_toArray, List.set_cons_zero, List.set_cons_succ]
        refine wpAnyH_ready (rs := [7]) (by kernel_rfl) (by simp) ?_
        refine AllReadyH.cons rfl (fun K hK => ?_) AllReadyH.nil
        go_simp
        go_at_call 13
        refine (p_Bytes nm tr A c ls hsm hse _ (hA.ext hx)).mono ?_
        rintro e w10 ⟨U, cu, rfl, hU, hy⟩
        have hx := hx.trans hy
        refine hK.out _ _ ?_ (fun hHeld => ?_)
        · go_split_ands
          exact ⟨hy.cell (by assumption), hy.cell (by assumption), hy.cell (by assumption), hy.cell (by assumption), hy.cell (by assumption), hy.cell (by assumption), hy.cell (by assumption), hy.cell (by assumption)⟩
        clear hK K
        try simp only [Act.put, List.setIfInBounds_toArray, List.set_cons_zero, List.set_cons_succ]
        refine wpAnyH_ready (rs := [9]) (by kernel_rfl) (by simp) ?_
        refine AllReadyH.cons rfl (fun K hK => ?_) AllReadyH.nil
        go_simp
        go_at_call 14
        refine (r_Bytes nm tr A c ls hsm hse _ (hA.ext hx)).mono ?_
        rintro e w11 ⟨V, cv, rfl, hV, hy⟩
        have hx := hx.trans hy
        have hU := hU.ext hy
        refine hK.out _ _ ?_ (fun hHeld => ?_)
        · go_split_ands
          exact ⟨hy.cell (by assumption), hy.cell (by assumption), hy.cell (by assumption), hy.cell (by assumption), hy.cell (by assumption), hy.cell (by assumption), hy.cell (by assumption), hy.cell (by assumption)⟩
        clear hK K
        try simp only [Act.put, List.setIfInBounds_toArray, List.set_cons_zero, List.set_cons_succ]
        refine wpAnyH_ready (rs := [10]) (by kernel_rfl) (by simp) ?_
        refine AllReadyH.cons rfl (fun K hK => ?_) AllReadyH.nil
        go_simp
        go_at_call 12
        refine (HI _ _ _ _ _ hU hV).mono ?_
        rintro e w12 ⟨rfl, hy⟩
        have hx := hx.trans hy
        refine hK.out _ _ ?_ (fun hHeld => ?_)
        · go_split_ands
          exact ⟨hy.cell (by assumption), hy.cell (by assumption), hy.cell (by assumption), hy.cell (by assumption), hy.cell (by assumption), hy.cell (by assumption), hy.cell (by assumption), hy.cell (by assumption)⟩
        clear hK K
        try simp only [Act.put, List.setIfInBounds_toArray, List.set_cons_zero, List.set_cons_succ]
        refine wpAnyH_take (i := 11) (v := ?_) rfl (by kernel_rfl) (by kernel_rfl) (by kernel_rfl) (fun _ _ _ h => h) (Or.inl ⟨by rfl, ?_⟩) (by assumption) ?_
        rotate_left 1
        · intro w hSw
          try dsimp only at hSw
          go_split_ands
          first | (go_simp; done) | (go_simp; with_reducible rfl)
        try simp only [Act.put, List.setIfInBounds_toArray, List.set_cons_zero, List.set_cons_succ]
        refine wpAnyH_take (i := 12) (v := ?_) rfl (by kernel_rfl) (by kernel_rfl) (by kernel_rfl) (fun _ _ _ h => h) (Or.inl ⟨by rfl, ?_⟩) (by assumption) ?_
        rotate_left 1
        · intro w hSw
          try dsimp only at hSw
          go_split_ands
          first | (go_simp; done) | (go_simp; with_reducible rfl)
        try simp only [Act.put, List.setIfInBounds_toArray, List.set_cons_zero, List.set_cons_succ]
        refine wpAnyH_take (i := 13) (v := ?_) rfl (by kernel_rfl) (by kernel_rfl) (by kernel_rfl) (fun _ _ _ h => h) (Or.inl ⟨by rfl, ?_⟩) (by assumption) ?_
        rotate_left 1
        · intro w hSw
          try dsimp only at hSw
          go_split_ands
          first | (go_simp; done) | (go_simp; with_reducible rfl)
        try simp only [Act.put, List.setIfInBounds_toArray, List.set_cons_zero, List.set_cons_succ]
        refine wpAnyH_take (i := 15) (v := ?_) rfl (by kernel_rfl) (by kernel_rfl) (by kernel_rfl) (fun _ _ _ h => h) (Or.inl ⟨by rfl, ?_⟩) (by assumption) ?_
        rotate_left 1
        · intro w hSw
          try dsimp only at hSw
          go_split_ands
          first | (go_simp; done) | (go_simp; with_reducible rfl)
        try simp only [Act.put, List.setIfInBounds_toArray, List.set_cons_zero, List.set_cons_succ]
        refine wpAnyH_take (i := 16) (v := ?_) rfl (by kernel_rfl) (by kernel_rfl) (by kernel_rfl) (fun _ _ _ h => h) (Or.inl ⟨by rfl, ?_⟩) (by assumption) ?_
        rotate_left 1
        · intro w hSw
          try dsimp only at hSw
          go_split_ands
          first | (go_simp; done) | (go_simp; with_reducible rfl)
        try simp only [Act.put, List.setIfInBounds_toArray, List.set_cons_zero, List.set_cons_succ]
        refine wpAnyH_take (i := 17) (v := ?_) rfl (by kernel_rfl) (by kernel_rfl) (by kernel_rfl) (fun _ _ _ h => h) (Or.inl ⟨by rfl, ?_⟩) (by assumption) ?_
        rotate_left 1
        · intro w hSw
          try dsimp only at hSw
          go_split_ands
          first | (go_simp; done) | (go_simp; with_reducible rfl)
        try simp only [Act.put, List.setIfInBounds_toArray, List.set_cons_zero, List.set_cons_succ]
        refine wpAnyH_take (i := 18) (v := ?_) rfl (by kernel_rfl) (by kernel_rfl) (by kernel_rfl) (fun _ _ _ h => h) (Or.inl ⟨by rfl, ?_⟩) (by assumption) ?_
        rotate_left 1
        · intro w hSw
          try dsimp only at hSw
          go_split_ands
          first | (go_simp; done) | (go_simp; with_reducible rfl)
        try simp only [Act.put, List.setIfInBounds_toArray, List.set_cons_zero, List.set_cons_succ]
        refine wpAnyH_ready (rs := [14]) (by kernel_rfl) (by simp) ?_
        refine AllReadyH.cons rfl (fun K hK => ?_) AllReadyH.nil
        go_simp
        go_at_call 15
        refine (HC _).mono ?_
        rintro e w13 ⟨rfl, hy⟩
        have hx := hx.trans hy
        refine hK.out _ _ ?_ (fun hHeld => ?_)
        · go_split_ands
          exact ⟨hy.cell (by assumption), hy.cell (by assumption), hy.cell (by assumption), hy.cell (by assumption), hy.cell (by assumption), hy.cell (by assumption), hy.cell (by assumption), hy.cell (by assumption)⟩
        clear hK K
        try simp only [Act.put, List.setIfInBounds_toArray, List.set_cons_zero, List.set_cons_succ]
        refine wpAnyH_take (i := 19) (v := ?_) rfl (by kernel_rfl) (by kernel_rfl) (by kernel_rfl) (fun _ _ _ h => h) (Or.inl ⟨by rfl, ?_⟩) (by assumption) ?_
        rotate_left 1
        · intro w hSw
          try dsimp only at hSw
          go_split_ands
          first | (go_simp; done) | (go_simp; with_reducible rfl)
        change wpAnyH _ _ _ _ _ _ _ (Act.put _ (some 37) _) _
        simp only [Act.put, List.setIfInBounds_toArray, List.set_cons_zero, List.set_cons_succ]
        refine wpAnyH_take (i := 20) (v := undef) rfl (by kernel_rfl) (by kernel_rfl) (by kernel_rfl) (fun _ _ _ h => h) (Or.inr ⟨by rfl, rfl⟩) (by assumption) ?_
        change wpAnyH _ _ _ _ _ _ _ (Act.put _ (some 38) _) _
        simp only [Act.put, List.setIfInBounds_toArray, List.set_cons_zero, List.set_cons_succ]
        refine wpAnyH_take (i := 21) (v := undef) rfl (by kernel_rfl) (by kernel_rfl) (by kernel_rfl) (fun _ _ _ h => h) (Or.inr ⟨by rfl, rfl⟩) (by assumption) ?_
        change wpAnyH _ _ _ _ _ _ _ (Act.put _ (some 39) _) _
        simp only [Act.put, List.setIfInBounds_toArray, List.set_cons_zero, List.set_cons_succ]
        refine wpAnyH_take (i := 22) (v := undef) rfl (by kernel_rfl) (by kernel_rfl) (by kernel_rfl) (fun _ _ _ h => h) (Or.inr ⟨by rfl, rfl⟩) (by assumption) ?_
        change wpAnyH _ _ _ _ _ _ _ (Act.put _ (some 40) _) _
        simp only [Act.put, List.setIfInBounds_toArray, List.set_cons_zero, List.set_cons_succ]
        refine wpAnyH_take (i := 23) (v := undef) rfl (by kernel_rfl) (by kernel_rfl) (by kernel_rfl) (fun _ _ _ h => h) (Or.inr ⟨by rfl, rfl⟩) (by assumption) ?_
        change wpAnyH _ _ _ _ _ _ _ (Act.put _ (some 41) _) _
        simp only [Act.put, List.setIfInBounds_toArray, List.set_cons_zero, List.set_cons_succ]
        refine wpAnyH_take (i := 24) (v := ?_) rfl (by kernel_rfl) (by kernel_rfl) (by kernel_rfl) (fun _ _ _ h => h) (Or.inl ⟨by rfl, ?_⟩) (by assumption) ?_
        rotate_left 1
        · intro w hSw
          try dsimp only at hSw
          go_split_ands
          first | (go_simp; done) | (go_simp; with_reducible rfl)
        change wpAnyH _ _ _ _ _ _ _ (Act.put _ (some 42) _) _
        simp only [Act.put, List.setIfInBounds_toArray, List.set_cons_zero, List.set_cons_succ]
        refine wpAnyH_take (i := 25) (v := ?_) rfl (by kernel_rfl) (by kernel_rfl) (by kernel_rfl) (fun _ _ _ h => h) (Or.inl ⟨by rfl, ?_⟩) (by assumption) ?_
        rotate_left 1
        · intro w hSw
          try dsimp only at hSw
          go_split_ands
          first | (go_simp; done) | (go_simp; with_reducible rfl)
        change wpAnyH _ _ _ _ _ _ _ (Act.put _ (some 43) _) _
        simp only [Act.put, List.setIfInBounds_toArray, List.set_cons_zero, List.set_cons_succ]
        refine wpAnyH_take (i := 26) (v := ?_) rfl (by kernel_rfl) (by kernel_rfl) (by kernel_rfl) (fun _ _ _ h => h) (Or.inl ⟨by rfl, ?_⟩) (by assumption) ?_
        rotate_left 1
        · intro w hSw
          try dsimp only at hSw
          go_split_ands
          first | (go_simp; done) | (go_simp; with_reducible rfl)
        change wpAnyH _ _ _ _ _ _ _ (Act.put _ (some 44) _) _
        simp only [Act.put, List.setIfInBounds_toArray, List.set_cons_zero, List.set_cons_succ]
        refine wpAnyH_take (i := 27) (v := ?_) rfl (by kernel_rfl) (by kernel_rfl) (by kernel_rfl) (fun _ _ _ h => h) (Or.inl ⟨by rfl, ?_⟩) (by assumption) ?_
        rotate_left 1
        · intro w hSw
          try dsimp only at hSw
          go_split_ands
          first | (go_simp; done) | (go_simp; with_reducible rfl)
        change wpAnyH _ _ _ _ _ _ _ (Act.put _ (some 4) _) _
        simp only [Act.put, List.setIfInBounds_toArray, List.set_cons_zero, List.set_cons_succ]
        refine wpAnyH_done (by kernel_rfl) ?_ _
        go_wp2
        go_ret
        exact ⟨rfl, hx⟩
end Go.Proofs.YtjdmgpefjehkaaaGreatDoor
