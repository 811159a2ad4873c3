/- PolarChecks: for every automaton the law returns true, and the automaton reads as it did. Conditions: the three tables of the library lie as the program's text lays them. -/
import Derived.Test.YtmknnanbmkmnjaaGreatDoorV18
import Derived.Test.YtmknnanbmkmnjaaGreatDoorCards
import Derived.Test.YtmknnanbmkmnjaaGreatDoorTie
import Derived.SevenTiedAt
import Derived.OpenShut
import Derived.ProofKit
set_option linter.unusedVariables false
namespace Go.Proofs.YtmknnanbmkmnjaaGreatDoor
open Go.ChangeShapes Go.WideShapes Go.ChangeAt Go.WideMaps Go.WideElems Go.RowKit Go.Vm
theorem own : ownKnob Tryz.prog.godebug = none := by kernel_rfl
theorem door_met (os : Os) (args : Array Value) : laidMetH Tryz.prog laid3 ((World.doorLaid Tryz.prog 400 os).forCall (fun _ _ => 0) ⟨#[], args, []⟩).memory :=
  laidMetH_of_parts3 (fuel := 8) (laidMet_of_run' 8 (by kernel_rfl) (by kernel_rfl)) (by kernel_rfl) (by kernel_rfl)
set_option maxRecDepth 100000 in
theorem lifted (os : Os) (started : os.Started) (H : Type) (enc : TypeId × Value → H) :
    ReturnsInHanded {} Tryz.checked os 3 .any (fun w args => (Rows.polarChecksSpec.pre enc Tryz.prog Tryz.f3 [] false w args ∧ laidMetH Tryz.prog laid3 w) ∧ sizedMet enc Tryz.prog Tryz.f3 (OpenSpec.ofChange Rows.polarChecksSpec) false w args)
      (Rows.polarChecksSpec.post enc Tryz.prog Tryz.f3 false true false false) := by
  refine returnsInHanded_of_change_and (C := Tryz.checked) (X := fun w _ => laidMetH Tryz.prog laid3 w) (fun _ _ _ hh h => h.of_heap hh) own started (by kernel_rfl) Tryz.func3
    (ChangeSpec.witness_shaped (enc := enc) (C := Tryz.checked) (os := os) (X := fun w _ => laidMetH Tryz.prog laid3 w) false (World.doorLaid Tryz.prog 400 os) #[.agg #[.slice none 0 0, .int .i64 0]] 8 rfl (World.shaped_of_RefB (by kernel_rfl) (by kernel_rfl)) (by kernel_rfl) (by kernel_rfl) (by kernel_rfl) (door_met os _)) ?_
  intro W base args ds gs before hval0 hW _ hsz hL _
  have hval : ∀ (j : Nat) t v, Tryz.f3.params[j]? = some t → args[j]? = some v → Value.okWide Tryz.prog W .any base t v := hval0
  have hW' := hW
  obtain ⟨p, q, hA0, hV, rfl, hfz, hnd⟩ := hW
  have hA : DataW.TrodAll enc Tryz.prog W 0 (fun _ => true) true Tryz.f3.params.toList args.toList ds p := hA0
  have hw0 : (DataW.weightsEach Tryz.prog (Tryz.f3.params.toList ++ Rows.polarChecksSpec.plain.varTypes Tryz.prog) (ds ++ gs)).all (· ≤ reachBytes) = true := hsz
  rw [Tryz.params3] at hA hval hw0
  obtain ⟨v0, d0, rfl, rfl, h0⟩ := trodAll_one hA
  obtain ⟨rfl, rfl⟩ := trodVars_none hV
  obtain ⟨x, hx, hr⟩ := arg_auto (hval 0 24 v0 rfl rfl) h0 (weightsEach_at hw0 0 24 d0 rfl rfl)
  clear hA0 hval0
  refine (enter_kept (E := En) En_ok (WR.all (glob_laid hL)) (args_one hr) (polarChecks_ok (g0 := G.none) rfl rfl lives15 x.L x.root hx.len hx.each)).mono ?_
  rintro e W' ⟨r, y, v', g', rfl, ⟨rfl, _⟩, hy, hk⟩
  obtain rfl := rep_bool hy
  exact ⟨_, rfl, post_kept typesT_ok (by kernel_rfl) hW' rfl (fun _ _ _ => trodAll_mk1 (shut_bool Tryz.underlying4 _)) rfl rfl hk⟩
theorem polarChecks_holds : Rows.PolarChecksSaid :=
  OpenClaim.holds_of_wide 3 Tryz.f3 rfl rfl rfl rfl rfl rfl rfl ⟨rfl, rfl, rfl, rfl, rfl⟩ rfl rfl rfl rfl rfl (by kernel_rfl) Tryz.func3 (by kernel_rfl)
    (of_decide_eq_true (by kernel_rfl)) (by unfold Func.isWrapper; first | (rw [if_pos (by decide +kernel)]; kernel_rfl) | (rw [if_neg (by decide +kernel)]; exact ⟨rfl, rfl⟩))
    (fun os started H enc _ => lifted os started H enc)
theorem polarChecks_card : Rows.PolarChecksCardSaid :=
  Claim7.holds_tied_plain_at .later [] [.data, .data, .data] true (true, "9d82f9099ea9500a16a98d45364dc822a1b99501e8c65313cba146d52e56e36b") false
    polarChecks_holds (fun _ h => by cases h) (by kernel_rfl) (fun _ h => by cases h) polarChecks_row_tie rfl ⟨rfl, rfl⟩ (by kernel_rfl) rfl
    (fun f fn hf hfn => by
      obtain rfl : f = 3 := Option.some.inj ((show Tryz.prog.funcNamed "azimuth/azimuthlaw15.PolarChecks" = some 3 by kernel_rfl).symm.trans hf) |>.symm
      obtain rfl : fn = Tryz.f3 := (Option.some.inj (Tryz.func3.symm.trans hfn)).symm
      exact ⟨by kernel_rfl, fun j t ht => by
        rw [Tryz.params3] at ht
        have hm : t ∈ [24] := by simpa using Array.mem_of_getElem? ht
        have hall : ([24].all fun u => !Tryz.prog.wantsStandIn u) = true := by kernel_rfl
        exact (show Tryz.prog.wantsStandIn t = false by simpa using List.all_eq_true.1 hall t hm)⟩)
    (by kernel_rfl)
#print axioms polarChecks_card
end Go.Proofs.YtmknnanbmkmnjaaGreatDoor
