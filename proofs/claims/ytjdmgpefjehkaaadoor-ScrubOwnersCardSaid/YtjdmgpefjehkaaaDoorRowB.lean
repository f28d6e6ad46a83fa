/- For every table and every sector, Owner and Map return what the specification says: the law ScrubOwners returns true, and its arguments read behind the call as before. Conditions: the listed package-level variables hold what the program's text lays there (the card ties them). -/
import Derived.Test.YtjdmgpefjehkaaaDoorClose
import Derived.Test.YtjdmgpefjehkaaaDoorLawA
namespace Go.Proofs.YtjdmgpefjehkaaaDoor
open Go Go.ChangeShapes Go.WideShapes Go.ChangeAt Go.RowKit Go.Deep
set_option maxRecDepth 100000

theorem owners_door (os : Os) (args : Array Value) : laidMetH Tryd.prog Rows.scrubOwnersRow.laid ((World.doorLaid Tryd.prog 400 os).forCall (fun _ _ => 0) ⟨#[], args, []⟩).memory :=
  laidMetH_of_parts3 (fuel := 8) (laidMet_of_run' 8 (by kernel_rfl) (by kernel_rfl)) (by kernel_rfl) (by kernel_rfl)
theorem owners_lifted (os : Os) (started : os.Started) (H : Type) (enc : TypeId × Value → H) :
    ReturnsInHanded {} Tryd.checked os 4 .any (fun w args => (Rows.scrubOwnersSpec.pre enc Tryd.prog Tryd.f4 [] false w args ∧ laidMetH Tryd.prog Rows.scrubOwnersRow.laid w) ∧ sizedMet enc Tryd.prog Tryd.f4 (OpenSpec.ofChange Rows.scrubOwnersSpec) false w args)
      (Rows.scrubOwnersSpec.post enc Tryd.prog Tryd.f4 false true false false) := by
  refine returnsInHanded_of_change_and (C := Tryd.checked) (X := fun w _ => laidMetH Tryd.prog Rows.scrubOwnersRow.laid w) (fun _ _ _ hh h => h.of_heap hh) own_knob started (by kernel_rfl) Tryd.func4
    (ChangeSpec.witness_shaped (enc := enc) (C := Tryd.checked) (os := os) (X := fun w _ => laidMetH Tryd.prog Rows.scrubOwnersRow.laid w) false (World.doorLaid Tryd.prog 400 os) #[.agg #[.string ⟨#[]⟩, .int .i64 0, .slice none 0 0], .int .i64 0] 8 rfl (World.shaped_of_RefB (by kernel_rfl) (by kernel_rfl)) (by kernel_rfl) (by kernel_rfl) (by kernel_rfl) (owners_door os _)) ?_
  intro W base args ds gs before hval0 hW _ hsz0 hLd _
  have hval : ∀ (j : Nat) t v, Tryd.f4.params[j]? = some t → args[j]? = some v → Value.okWide Tryd.prog W .any base t v := hval0
  have hsz : (DataW.weightsEach Tryd.prog (Tryd.f4.params.toList ++ Rows.scrubOwnersSpec.plain.varTypes Tryd.prog) (ds ++ gs)).all (· ≤ reachBytes) = true := hsz0
  have hW' := hW
  obtain ⟨p, q, hA0, hV, rfl, _, _⟩ := hW'
  have hA : DataW.TrodAll enc Tryd.prog W 0 (fun _ => true) true Tryd.f4.params.toList args.toList ds p := hA0
  rw [Tryd.params4] at hA hval hsz
  obtain ⟨v0, v1, d0, d1, p0, p1, rfl, rfl, rfl, h0, h1⟩ := trodAll_two hA
  obtain ⟨rfl, rfl⟩ := trodVars_none hV
  obtain ⟨nm, t, A, ls, c, rfl, hL, _, _⟩ := open_table (hval 0 _ v0 rfl rfl) h0 (Wt.of_each hsz (j := 0) rfl rfl)
  obtain ⟨s, rfl, hs⟩ := open_int64 (hval 1 _ v1 rfl rfl) h1
  refine (w_ScrubOwners nm t A c ls s hs W hL (tab_of_laid hLd)).mono fun e W' ⟨he, hx⟩ => ?_
  subst he
  exact ⟨_, rfl, law_post laid_out rfl Tryd.underlying4 (by kernel_rfl) (by kernel_rfl) hW ⟨rfl, rfl, rfl⟩ hx⟩
theorem owners_holds : Rows.ScrubOwnersSaid :=
  OpenClaim.holds_of_wide 4 Tryd.f4 rfl rfl rfl rfl rfl rfl rfl ⟨rfl, rfl, rfl, rfl, rfl⟩ rfl rfl rfl rfl rfl (by kernel_rfl) Tryd.func4 (by kernel_rfl)
    (of_decide_eq_true (by kernel_rfl)) (by unfold Func.isWrapper; first | (rw [if_pos (by decide +kernel)]; kernel_rfl) | (rw [if_neg (by decide +kernel)]; exact ⟨rfl, rfl⟩))
    (fun os started H enc _ => owners_lifted os started H enc)
theorem owners_card : Rows.ScrubOwnersCardSaid :=
  Claim7.holds_tied_plain_at .later [] [.data, .data, .data] true (true, "69de32026c6ffdc24dc13428d3382803c8419c104bc2a307b0b7dec4d527e72d") false
    owners_holds (fun _ h => by cases h) (by kernel_rfl) (fun _ h => by cases h) scrubOwners_row_tie rfl ⟨rfl, rfl⟩ (by kernel_rfl) rfl
    (fun f fn hf hfn => by
      obtain rfl : f = 4 := Option.some.inj ((show Tryd.prog.funcNamed "dasd/dasdlaw15.ScrubOwners" = some 4 by kernel_rfl).symm.trans hf) |>.symm
      obtain rfl : fn = Tryd.f4 := (Option.some.inj (Tryd.func4.symm.trans hfn)).symm
      exact ⟨by kernel_rfl, fun j t ht => by
        rw [Tryd.params4] at ht
        have hm : t ∈ [34, 3] := by simpa using Array.mem_of_getElem? ht
        have hall : ([34, 3].all fun u => !Tryd.prog.wantsStandIn u) = true := by kernel_rfl
        exact (show Tryd.prog.wantsStandIn t = false by simpa using List.all_eq_true.1 hall t hm)⟩)
    (by kernel_rfl)
end Go.Proofs.YtjdmgpefjehkaaaDoor
