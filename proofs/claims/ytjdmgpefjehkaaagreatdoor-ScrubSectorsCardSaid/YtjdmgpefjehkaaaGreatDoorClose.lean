/- How a law's row closes at this seat: what the laid table gives, and that the arguments read behind the call as before. -/
import Derived.Test.YtjdmgpefjehkaaaGreatDoorRows
import Derived.Test.YtjdmgpefjehkaaaGreatDoorTie
import Derived.Test.YtjdmgpefjehkaaaGreatDoorCards
import Derived.Test.YtjdmgpefjehkaaaGreatDoorOpen
import Derived.SevenTiedAt
namespace Go.Proofs.YtjdmgpefjehkaaaGreatDoor
open Go Go.ChangeShapes Go.WideShapes Go.ChangeAt Go.RowKit Go.Deep
set_option maxRecDepth 100000

theorem own_knob : ownKnob Tryz.prog.godebug = none := by kernel_rfl
theorem laid_out : laidOutB Tryz.prog = true := by kernel_rfl
theorem tabT : ((Tryz.prog.globalNamed "internal/strconv.uint64pow10").bind fun g => (Tryz.prog.globals[g]?).map (·.type)) = some 151 := by kernel_rfl
theorem tab_of_laid {W : World} (h : laidMetH Tryz.prog [("math/bits.deBruijn32tab", Rows.laid_math_bits_deBruijn32tab), ("math/bits.deBruijn64tab", Rows.laid_math_bits_deBruijn64tab), ("internal/strconv.uint64pow10", Rows.laid_internal_strconv_uint64pow10)] W) : Tab10 W := by
  rw [MakeChecks.laidMetH_plain _ _ _ (by kernel_rfl)] at h
  obtain ⟨ps, ⟨g0, t0, cs0, f0, p0, q0, _, _, _, _, ⟨g1, t1, cs1, f1, p1, q1, _, _, _, _, ⟨g2, t2, cs2, f2, p2, q2, hg, ht, hv, hd, _, _⟩, _⟩, _⟩, _, _⟩ := h
  have ht2 := tabT
  rw [hg] at ht2
  obtain rfl := Option.some.inj (ht.symm.trans ht2)
  have hc := Lib.cells_of_tab (zs := Lib.pow10Tab) (k := .u64) (n := 20) Tryz.underlying151 Tryz.underlying125 (by kernel_rfl) (by kernel_rfl) hd
  unfold Tab10 Lib.TabIs
  rw [hv, ← hc]

section
variable {H : Type} {enc : TypeId × Value → H} {P : Program}
theorem read_again (hl : laidOutB P = true) {W W' : World} (hx : Ext W W') : ∀ {ts : List TypeId} {vs : List Value} {ds : List (DataW H)} {ps : List MemPlace}, (∀ t ∈ ts, P.readableRec t = true ∧ t < P.types.size) →
    DataW.TrodAll enc P W 0 (fun _ => true) true ts vs ds ps → (∀ x ∈ ps, x.block < W.heap.size) → DataW.TrodAll enc P W' 0 (fun b => decide (b < W.heap.size)) true ts vs ds ps
  | [], [], [], _, _, h, _ => h
  | _ :: _, _ :: _, _ :: _, _, hT, ⟨p, q, h1, h2, e⟩, hs =>
    ⟨p, q, Below.trod hl (hT _ (List.mem_cons_self ..)).1 (hT _ (List.mem_cons_self ..)).2 h1 hx (fun x hm => hs x (by rw [e]; exact List.mem_append_left _ hm)),
      read_again hl hx (fun t ht => hT t (List.mem_cons_of_mem _ ht)) h2 (fun x hm => hs x (by rw [e]; exact List.mem_append_right _ hm)), e⟩
/-- A law's row at its end: it returned true, and what was there is there as it was. -/
theorem law_post (hl : laidOutB P = true) {f : Func} {s : ChangeSpec} {W W' : World} {args : Array Value} {ds gs : List (DataW H)} {before : List MemPlace} (hvars : s.vars = []) {tb : TypeId} (hb : P.underlying tb = some .bool) (hres : f.resultTypes = #[tb])
    (hts : (f.params.toList.all fun t => P.readableRec t && decide (t < P.types.size)) = true)
    (hW : DataW.Whole enc P f.params.toList s.vars false W args.toList ds gs before) (hfn : (s.fn H (ds ++ gs)).results = [.lit (.bool true)] ∧ (s.fn H (ds ++ gs)).args = ds ∧ (s.fn H (ds ++ gs)).vars = []) (hx : Ext W W') : s.post enc P f false true false false W args (.bool true) W' := by
  have hW' := hW
  obtain ⟨p, q, hA, hV, rfl, _, _⟩ := hW'
  have hlt : ∀ x ∈ p, x.block < W.heap.size := fun x hm => hW.lt x (List.mem_append_left _ hm)
  refine ⟨ds, gs, p ++ q, [], p, [], hW, ?_, ?_, ?_, Below.frame hx _, fun h => by cases h⟩
  · rw [hres, hfn.1]
    exact trodAll_mk1 (shut_bool hb _)
  · rw [hfn.2.1]
    refine read_again hl hx (fun t ht => ?_) hA hlt
    have := List.all_eq_true.1 hts t ht
    simpa using this
  · rw [hvars, hfn.2.2]
    exact rfl
end
end Go.Proofs.YtjdmgpefjehkaaaGreatDoor
