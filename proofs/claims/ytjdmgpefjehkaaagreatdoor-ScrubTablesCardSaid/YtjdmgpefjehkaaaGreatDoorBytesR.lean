/- Numbers of bytes, in the reference. -/
import Derived.Test.YtjdmgpefjehkaaaGreatDoorBytes
import Derived.Deep.RegionLaw
namespace Go.Proofs.YtjdmgpefjehkaaaGreatDoor
open Go.RowKit
attribute [local go_sem] Instr.field asAgg
set_option maxRecDepth 100000

theorem own_own_far {w : World} {base base' size size' n n' : Nat} {e e' : TypeId} {v v' : Value} {xs xs' : List Value} (h : w.ownsRow base e size v n xs) (h' : w.ownsRow base' e' size' v' n' xs') (hne : e ≠ e') : v.ownBlock = none ∨ v.ownBlock ≠ v'.ownBlock := by
  rcases h.2 with ⟨rfl, _⟩ | ⟨g, cap, cur, rfl, _, hg, _⟩
  · exact .inl rfl
  · right
    rcases h'.2 with ⟨rfl, _⟩ | ⟨g', cap', cur', rfl, _, hg', _⟩
    · simp [Value.ownBlock]
    · intro he
      have : g = g' := by simpa [Value.ownBlock] using he
      subst this
      rw [hg] at hg'
      injection hg' with hg'
      injection hg' with _ ht
      exact hne ht
set_option maxHeartbeats 2000000 in
theorem r_Bytes (nm : ByteArray) (tr : Int) (A : Option Addr) (c : Nat) (ls : List Label) (hsm : (ls.length : Int) ≤ 1000000) (hse : ∀ l ∈ ls, (l.ext.length : Int) ≤ 1000000) (w : World) (hA : Labels w A ls) :
    Calls Tryz.prog 14 #[.agg #[.string nm, .int .i64 tr, .slice A ls.length c]] w fun e w' => ∃ B cb, e = .returned (.slice B (bytesS ls).length cb) ∧ Ints w' B (bytesS ls) ∧ Ext w w' := by
  have hu2 := Tryz.underlying24
  have hu3 := Tryz.underlying43
  have hu4 := Tryz.underlying40
  have hx0 := ((Ext.refl w).alloc (.cells #[.string nm, .int .i64 tr, .slice A ls.length c] 24)).alloc (.cells #[] 3)
  have hO0 := own_new (w.alloc (.cells #[.string nm, .int .i64 tr, .slice A ls.length c] 24)) w.heap.size 3 1 (by simp)
  go_enter Tryz.func14, Tryz.ntmps14
  go_wp2_with fail
  refine (r_Refs8 nm tr A c ls hsm _ (hA.ext hx0)).mono ?_
  rintro e w2 ⟨B, cb, rfl, hRf, hx2, hBf, hRo⟩
  have hrk := hRf.ok
  have hrln := hRf.len
  clear hRf hBf
  have hT2 := ((Blk.new w 24 [.string nm, .int .i64 tr, .slice A ls.length c]).alloc (.cells #[] 3)).ext hx2
  have hy2 := hx0.trans hx2
  have hO2 := own_ext hO0 hx2
  have hrl : (refsS ls).length ≤ ls.length := by have := sortR_len (refsOf ls); have := refsOf_len ls; unfold refsS; omega
  have hln : (bytesS ls).length = (refsS ls).length := by unfold bytesS; rw [List.length_map]
  have hln2 := Lib.hid hln
  clear hln
  go_wp2
  go_loopg [3, 5] (refsS ls).length (fun g v i wr => ∃ k : Nat, k + g = (refsS ls).length ∧ i = .int .i64 k ∧ wr.ownsRow w.heap.size 3 1 v k (intCells (((refsS ls).take k).map (byteI ls))) ∧ Blk wr w.heap.size 24 [.string nm, .int .i64 tr, .slice A ls.length c] ∧ (∃ bb : Nat, wr.ownsRow bb 40 2 (.slice B (refsS ls).length cb) (refsS ls).length ((refsS ls).flatMap refCells)) ∧ Ext w wr)
  case atStart => exact ⟨0, by omega, rfl, by simpa [intCells] using hO2, hT2, ⟨_, hRo⟩, hy2⟩
  case round =>
    obtain ⟨k, hk, rfl, ho, hT, ⟨bb, hRo⟩, hx⟩ := hrel
    have hRw : Refs wr B (refsS ls) := ⟨Sl.own hRo, hrk, hrln⟩
    have hk2 := Lib.hid hk
    have hkR : k ≤ (refsS ls).length := by omega
    clear hk
    have d0 := hT.cell 0 rfl
    have d1 := hT.cell 1 rfl
    have d2 := hT.cell 2 rfl
    have dl := hT.lt
    rcases Nat.lt_or_ge k (refsS ls).length with hlt | hge
    · obtain ⟨b, o, rfl, a0, a1⟩ := hRw.at_ hlt
      have bl := World.block_lt_of_cell? wr _ a0
      dsimp only at bl
      have hkl : (k : Int) < ((refsS ls).length : Int) := by omega
      have hk0 : (0 : Int) ≤ (k : Int) := by omega
      have hsn := Lib.hid (map_snoc (byteI ls) (refsS ls) k hlt)
      generalize (refsS ls)[k] = r at *
      have HF := fun W => r_Find8 nm tr A c ls r w W hA
      have hbd := byteI_bd hse r
      have hfe := findL_ext hse r
      have hsq := seq_le (findL ls r).ext
      have hn0 : (0 : Int) ≤ ((seq (findL ls r).ext).length : Int) := by omega
      have hnb : ((seq (findL ls r).ext).length : Int) ≤ 128000000 := by omega
      have hbi : Hid (byteI ls r = 1024 * ((seq (findL ls r).ext).length : Int)) := rfl
      generalize byteI ls r = bi at *
      generalize findL ls r = l at *
      have hxx := hx.drew
      have hzz := (Ext.refl wr).drew
      go_wp2_with fail
      go_region_held3 (fun w' => w'.cell? ⟨w.heap.size, 0, none⟩ = some (.string nm) ∧ w'.cell? ⟨w.heap.size, 1, none⟩ = some (.int .i64 tr) ∧ w'.cell? ⟨w.heap.size, 2, none⟩ = some (.slice A ls.length c) ∧ w'.cell? ⟨b, o + k * 2, none⟩ = some (.int .i64 r.id) ∧ w'.cell? ⟨b, o + k * 2 + 1, none⟩ = some (.int .i64 r.unit)) (first | with_reducible exact ⟨hE.cell d0, hE.cell d1, hE.cell d2, hE.cell a0, hE.cell a1⟩ | with_reducible exact ⟨(hE.alloc _).cell d0, (hE.alloc _).cell d1, (hE.alloc _).cell d2, (hE.alloc _).cell a0, (hE.alloc _).cell a1⟩ | with_reducible exact ⟨(hE.set5 (Nat.le_refl _) _ _ _ _ _).cell d0, (hE.set5 (Nat.le_refl _) _ _ _ _ _).cell d1, (hE.set5 (Nat.le_refl _) _ _ _ _ _).cell d2, (hE.set5 (Nat.le_refl _) _ _ _ _ _).cell a0, (hE.set5 (Nat.le_refl _) _ _ _ _ _).cell a1⟩ | go_keep) (first | (go_at_call 37; refine (HF _ (by first | exact hxx | exact (hx.alloc _).drew)).mono ?_; rintro e w5 ⟨D, cD, rfl, hD, hy⟩; have hE : Ext wr w5 := Ext.trans (by first | exact (Ext.refl wr).drew | exact ((Ext.refl wr).alloc _).drew) hy; first | (have hG := (Blk.new wr 43 [.int .i64 0, .int .i64 0, .string ⟨#[]⟩, .string ⟨#[]⟩, .slice none 0 0]).drew.ext hy; have g0 := hG.cell 0 rfl; have g1 := hG.cell 1 rfl; have g2 := hG.cell 2 rfl; have g3 := hG.cell 3 rfl; have g4 := hG.cell 4 rfl; have z0 := hG.frozen 0; have z1 := hG.frozen 1; have z2 := hG.frozen 2; have z3 := hG.frozen 3; have z4 := hG.frozen 4) | skip))
      · have hE6 := hE.alloc (.cells #[.int .i64 l.id, .int .i64 l.unit, .string l.name, .string l.note, .slice D l.ext.length cD] 43)
        have hL6 := Blk.new w5 43 [.int .i64 l.id, .int .i64 l.unit, .string l.name, .string l.note, .slice D l.ext.length cD]
        have ho6 := own_ext ho hE6
        have hT6 := hT.ext hE6
        have hR6 := own_ext hRo hE6
        have hx6 := hx.trans hE6
        have l4 := hL6.cell 4 rfl
        have HS := fun w => r_seq D cD l.ext w (by omega)
        clear hL6 hE6 hE hT hRw hRo hxx hzz d0 d1 d2 a0 a1 HF
        generalize hsl : seq l.ext = sl at *
        clear hsl
        go_wp2_with fail
        refine (HS _ (hD.ext hx6)).mono ?_
        clear HS
        rintro e w7 ⟨S, cS, rfl, hS, hx7⟩
        have hx8 := hx6.trans hx7
        have ho8 := own_ext ho6 hx7
        have hT8 := hT6.ext hx7
        go_wp2_with (at_builtin; refine app2 w.heap.size rfl _ _ _ 3 (.int .i64 0) 1 8 rfl Tryz.underlying26 int_info rfl (by omega) (by omega) u3 _ _ [.int .i64 (1024 * (sl.length : Int))] rfl (by simp [Value.oneCell']) rfl _ rfl (by simp) ho8 hx8.le (by omega) ?_; intro v1 w9 oB gA)
        go_roundg ((refsS ls).length - k - 1)
        case measure => have := hk2.out; omega
        case rel => exact ⟨k + 1, by omega, by go_num, by rw [hsn.out, ← intCells_snoc, hbi.out]; exact oB, hT8.grown gA (own_far ho8 hT8 (by decide)), ⟨_, (own_ext hR6 hx7).kept gA (own_own_far (own_ext hR6 hx7) ho8 (by decide))⟩, hx8.own ho8 gA⟩
      · have hE6 := hE.set5 (g := wr.heap.size) (Nat.le_refl _) (.int .i64 l.id) (.int .i64 l.unit) (.string l.name) (.string l.note) (.slice D l.ext.length cD)
        have hL6 := ((((hG.set 0 (.int .i64 l.id)).set 1 (.int .i64 l.unit)).set 2 (.string l.name)).set 3 (.string l.note)).set 4 (.slice D l.ext.length cD)
        clear hG g0 g1 g2 g3 g4 z0 z1 z2 z3 z4
        have ho6 := own_ext ho hE6
        have hT6 := hT.ext hE6
        have hR6 := own_ext hRo hE6
        have hx6 := hx.trans hE6
        have l4 := hL6.cell 4 rfl
        have HS := fun w => r_seq D cD l.ext w (by omega)
        clear hL6 hE6 hE hT hRw hRo hxx hzz d0 d1 d2 a0 a1 HF
        generalize hsl : seq l.ext = sl at *
        clear hsl
        go_wp2_with fail
        refine (HS _ (hD.ext hx6)).mono ?_
        clear HS
        rintro e w7 ⟨S, cS, rfl, hS, hx7⟩
        have hx8 := hx6.trans hx7
        have ho8 := own_ext ho6 hx7
        have hT8 := hT6.ext hx7
        go_wp2_with (at_builtin; refine app2 w.heap.size rfl _ _ _ 3 (.int .i64 0) 1 8 rfl Tryz.underlying26 int_info rfl (by omega) (by omega) u3 _ _ [.int .i64 (1024 * (sl.length : Int))] rfl (by simp [Value.oneCell']) rfl _ rfl (by simp) ho8 hx8.le (by omega) ?_; intro v1 w9 oB gA)
        go_roundg ((refsS ls).length - k - 1)
        case measure => have := hk2.out; omega
        case rel => exact ⟨k + 1, by omega, by go_num, by rw [hsn.out, ← intCells_snoc, hbi.out]; exact oB, hT8.grown gA (own_far ho8 hT8 (by decide)), ⟨_, (own_ext hR6 hx7).kept gA (own_own_far (own_ext hR6 hx7) ho8 (by decide))⟩, hx8.own ho8 gA⟩
    · have hkk : k = (refsS ls).length := by omega
      rw [List.take_of_length_le hge] at ho
      obtain ⟨D, cD, rfl, _⟩ := own_slice ho
      go_wp2
      go_ret
      refine ⟨D, cD, by rw [hln2.out, ← hkk]; rfl, ⟨Sl.own ho, fun y hy => ?_, by rw [hln2.out]; omega⟩, hx⟩
      obtain ⟨r, _, rfl⟩ := List.mem_map.1 hy
      have := byteI_bd hse r
      exact ⟨by omega, by omega⟩
end Go.Proofs.YtjdmgpefjehkaaaGreatDoor
