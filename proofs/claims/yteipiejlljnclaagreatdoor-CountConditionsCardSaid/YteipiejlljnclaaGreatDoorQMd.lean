/- CountConditions: the expected value of a diagram is the sum over the outcomes of a site of their weights times the expected values of the restrictions: for every list of numbers the law returns true, and the list reads afterwards as it read before. Conditions: the three listed tables of the library read as the program's text lays them (the card ties them); each slice that comes in is one that fits a machine, as the row says. -/
import Derived.Test.YteipiejlljnclaaGreatDoorQMa
import Derived.Test.YteipiejlljnclaaGreatDoorQLb
set_option linter.unusedVariables false
set_option linter.unusedSimpArgs false
namespace Go.Proofs.YteipiejlljnclaaGreatDoor
open Go Go.AL Go.ChangeShapes Go.WideShapes Go.ChangeAt Go.WideMaps Go.WideElems Go.RowKit
set_option maxRecDepth 100000 in
theorem liftedC (os : Os) (started : os.Started) (H : Type) (enc : TypeId × Value → H) :
  ReturnsInHanded {} Tryz.checked os 6 .any (fun w args => (Rows.countConditionsSpec.pre enc Tryz.prog Tryz.f6 [] false w args ∧ laidMetH Tryz.prog laid3 w) ∧ sizedMet enc Tryz.prog Tryz.f6 (OpenSpec.ofChange Rows.countConditionsSpec) false w args)
   (Rows.countConditionsSpec.post enc Tryz.prog Tryz.f6 false true false false) := by
 refine returnsInHanded_of_change_and (C := Tryz.checked) (X := fun w _ => laidMetH Tryz.prog laid3 w) (fun _ _ _ hh h => h.of_heap hh) own_knob started (by kernel_rfl) Tryz.func6
  (ChangeSpec.witness_shaped (enc := enc) (C := Tryz.checked) (os := os) (X := fun w _ => laidMetH Tryz.prog laid3 w) false (World.doorLaid Tryz.prog 24 os) #[.slice none 0 0] 8 rfl (World.shaped_of_RefB (by kernel_rfl) (by kernel_rfl)) (by kernel_rfl) (by kernel_rfl) (by kernel_rfl) (door_met os _)) ?_
 intro W base args ds gs before hval hW _ hsz _ _
 exact law_post rfl rfl rfl (fun _ _ => rfl) c_Conditions W args ds gs before hval hW hsz
theorem f_wfC : Rows.countConditionsRow.wf (OpenSpec.ofChange Rows.countConditionsSpec) = true := by kernel_rfl
theorem f_laidOutC : laidOutB Tryz.pinned.checked.prog = true := by kernel_rfl
theorem f_rowedC : mapsRowed Tryz.pinned.checked.prog = true := by kernel_rfl
theorem f_readsC : Tryz.f6.params.all (Tryz.pinned.checked.prog.readableRec ·) = true := by kernel_rfl
theorem f_tie0C : namedTie Tryz.pinned.checked.prog Rows.countConditionsRow.named Rows.countConditionsSpec.vars = true := by kernel_rfl
theorem f_stopsC : (Rows.countConditionsRow.stops == []) = true := by kernel_rfl
theorem f_pstopsC : (Tryz.pinned.checked.prog.stops == []) = true := by kernel_rfl
theorem f_knobsC : (Rows.countConditionsRow.knobs == []) = true := by kernel_rfl
theorem f_pknobsC : (Tryz.pinned.checked.prog.stopKnobs == []) = true := by kernel_rfl
theorem f_inPlaceC : (Rows.countConditionsRow.inPlace == Tryz.pinned.checked.prog.inPlace 6) = true := by kernel_rfl
theorem f_unfC : (Rows.countConditionsRow.unfollowed == Tryz.pinned.checked.prog.unfollowed 6) = true := by kernel_rfl
theorem f_recC : (Rows.countConditionsRow.recurses == Tryz.pinned.checked.prog.recurses 6) = true := by kernel_rfl
theorem f_namedC : (Rows.countConditionsRow.named == Tryz.pinned.checked.prog.varsNamed 6) = true := by kernel_rfl
theorem f_mapsC : (Rows.countConditionsRow.maps == (Tryz.f6.params.toList ++ Rows.countConditionsSpec.plain.varTypes Tryz.pinned.checked.prog).any (Tryz.pinned.checked.prog.mapsRec ·)) = true := by kernel_rfl
theorem f_ifacesC : (Rows.countConditionsRow.ifaces == (Tryz.f6.params.toList ++ Rows.countConditionsSpec.plain.varTypes Tryz.pinned.checked.prog).any (Tryz.pinned.checked.prog.ifacesRec ·)) = true := by kernel_rfl
theorem f_mapsOutC : (Rows.countConditionsRow.mapsOut == Tryz.pinned.checked.prog.mapsAmong Tryz.f6.resultTypes.toList) = true := by kernel_rfl
theorem f_loopsC : (Rows.countConditionsRow.loops == (Tryz.f6.params.toList ++ Rows.countConditionsSpec.plain.varTypes Tryz.pinned.checked.prog).any (Tryz.pinned.checked.prog.loopsFrom ·)) = true := by kernel_rfl
theorem f_wideC : (Rows.countConditionsRow.wideKeys == (Tryz.f6.params.toList ++ Rows.countConditionsSpec.plain.varTypes Tryz.pinned.checked.prog ++ Tryz.f6.resultTypes.toList).any (Tryz.pinned.checked.prog.wideKeysFrom ·)) = true := by kernel_rfl
theorem f_varsC : Rows.countConditionsSpec.vars.all (Tryz.pinned.checked.prog.varReadable ·) = true := by kernel_rfl
theorem f_resC : Tryz.f6.resultTypes.all (fun t => Tryz.pinned.checked.prog.readableRec t && decide (t < Tryz.pinned.checked.prog.types.size)) = true := by kernel_rfl
theorem f_ifacesOutC : (Rows.countConditionsRow.ifacesOut == Tryz.f6.resultTypes.toList.any (Tryz.pinned.checked.prog.ifacesRec ·)) = true := by kernel_rfl
theorem f_loopsOutC : (Rows.countConditionsRow.loopsOut == Tryz.f6.resultTypes.toList.any (Tryz.pinned.checked.prog.loopsFrom ·)) = true := by kernel_rfl
theorem f_plainC : (Rows.countConditionsRow.plainKeys == Tryz.pinned.checked.prog.plainKeys) = true := by kernel_rfl
theorem f_shortC : Rows.countConditionsRow.shortTexts.isNone = true := by kernel_rfl
theorem f_heardC : Tryz.pinned.checked.prog.stopsHeard = true := by kernel_rfl
theorem f_enterC : Tryz.pinned.checked.prog.mayEnter = true := by kernel_rfl
theorem f_lifted0C : (Rows.countConditionsRow.lifted == Tryz.pinned.checked.prog.liftsFinal) = true := by kernel_rfl
theorem f_makeC : (Tryz.pinned.checked.prog.make == some Rows.countConditionsRow.make) = true := by kernel_rfl
theorem f_kindsC : (Rows.countConditionsRow.kinds == (if Rows.countConditionsRow.domain.isEmpty then [] else Tryz.f6.params.toList.map fun t => match Tryz.pinned.checked.prog.underlying t with | some (.int k) => some k | _ => none)) = true := by kernel_rfl
theorem f_pinnedC : (Rows.countConditionsRow.pinned == Rows.countConditionsRow.pinnedBy) = true := by kernel_rfl
theorem f_veiledC : (Rows.countConditionsRow.veiled == (Tryz.f6.params.toList ++ Rows.countConditionsSpec.plain.varTypes Tryz.pinned.checked.prog ++ Tryz.f6.resultTypes.toList).any (Tryz.pinned.checked.prog.veiledRec ·)) = true := by kernel_rfl
theorem f_fitsC : Rows.countConditionsRow.veiledFits Tryz.pinned.checked.prog Tryz.f6.params.toList (Tryz.f6.params.toList ++ Rows.countConditionsSpec.plain.varTypes Tryz.pinned.checked.prog ++ Tryz.f6.resultTypes.toList) = true := by kernel_rfl
set_option maxRecDepth 100000 in
theorem closedC : joinedFacts Tryz.pinned.checked.prog 6 Tryz.f6 Rows.countConditionsSpec Rows.countConditionsRow = true := and_t (and_t (and_t (and_t (and_t (and_t (and_t (and_t (and_t (and_t (and_t (and_t (and_t (and_t (and_t (and_t (and_t (and_t (and_t (and_t (and_t (and_t (and_t (and_t (and_t (and_t (and_t (and_t (and_t (and_t (and_t (f_wfC) f_laidOutC) f_rowedC) f_readsC) f_tie0C) f_stopsC) f_pstopsC) f_knobsC) f_pknobsC) f_inPlaceC) f_unfC) f_recC) f_namedC) f_mapsC) f_ifacesC) f_mapsOutC) f_loopsC) f_wideC) f_varsC) f_resC) f_ifacesOutC) f_loopsOutC) f_plainC) f_shortC) f_heardC) f_enterC) f_lifted0C) f_makeC) f_kindsC) f_pinnedC) f_veiledC) f_fitsC
theorem namedC : Tryz.pinned.checked.prog.funcNamed Rows.countConditionsRow.func = some 6 := by kernel_rfl
theorem instC : Tryz.f6.isInstance Tryz.pinned.checked.prog Rows.countConditionsRow.origin Rows.countConditionsRow.targs := of_decide_eq_true (by kernel_rfl)
theorem wrapC : Tryz.f6.isWrapper Tryz.pinned.checked.prog Rows.countConditionsRow.wrapper Rows.countConditionsRow.mainSum := by unfold Func.isWrapper; first | (rw [if_pos (by decide +kernel)]; kernel_rfl) | (rw [if_neg (by decide +kernel)]; exact ⟨rfl, rfl⟩)
theorem saidC : Rows.CountConditionsSaid :=
 OpenClaim.holds_of_wide 6 Tryz.f6 rfl rfl rfl rfl rfl rfl rfl ⟨rfl, rfl, rfl, rfl, rfl⟩ rfl rfl rfl rfl rfl namedC Tryz.func6 closedC instC wrapC (fun os started H enc _ => liftedC os started H enc)
theorem byTextC : Rows.countConditionsRow.wfByText (OpenSpec.ofChange Rows.countConditionsSpec) = true := by kernel_rfl
theorem mainC : Tryz.pinned.checked.prog.mainIs = some (true, "81a4779245602e4505bb550610c11db015e9e05c9fff45316808e0d4e8a5c7e9".toList) := by kernel_rfl
theorem looksC : false = Tryz.pinned.checked.prog.looks [] := by kernel_rfl
theorem goesC : false = Rows.countConditionsRow.goesBy Tryz.pinned.checked.prog := by kernel_rfl
theorem parC : Tryz.f6.params = #[22] := by kernel_rfl
theorem wantC : Tryz.prog.wantsStandIn 22 = false := by kernel_rfl
theorem countConditions_holds : Rows.CountConditionsCardSaid :=
 Claim7.holds_tied_plain_at .later [] [.data, .data, .data] true (true, "81a4779245602e4505bb550610c11db015e9e05c9fff45316808e0d4e8a5c7e9") false
  saidC (fun _ h => by cases h) byTextC (fun _ h => by cases h) countConditions_row_tie rfl ⟨rfl, rfl⟩ mainC rfl
  (fun f fn hf hfn => by
   obtain rfl : f = 6 := Option.some.inj (namedC.symm.trans hf) |>.symm
   obtain rfl : fn = Tryz.f6 := (Option.some.inj (Tryz.func6.symm.trans hfn)).symm
   exact ⟨looksC, fun j t ht => by
    rw [parC] at ht
    have hm : t ∈ [22] := by simpa using Array.mem_of_getElem? ht
    rw [List.mem_singleton.1 hm]
    exact wantC⟩)
  goesC
#print axioms countConditions_holds
end Go.Proofs.YteipiejlljnclaaGreatDoor
