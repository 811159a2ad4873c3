/- RefineSame: for any three automata the law returns true, and the automata read as they did. Conditions: the three tables of the library lie as the program's text lays them. -/
import Derived.Test.YtmknnanbmkmnjaaGreatDoorW20
import Derived.Test.YtmknnanbmkmnjaaGreatDoorCards
import Derived.Test.YtmknnanbmkmnjaaGreatDoorTie
import Derived.SevenTiedAt
import Derived.OpenShut
import Derived.ProofKit
set_option linter.unusedVariables false
set_option linter.unusedSimpArgs false
set_option linter.unusedVariables false
namespace Go.Proofs.YtmknnanbmkmnjaaGreatDoor
open Go.ChangeShapes Go.WideShapes Go.ChangeAt Go.WideMaps Go.WideElems Go.RowKit Go.Vm
theorem own : ownKnob Tryz.prog.godebug = none := by kernel_rfl
theorem door_met (os : Os) (args : Array Value) : laidMetH Tryz.prog laid3 ((World.doorLaid Tryz.prog 400 os).forCall (fun _ _ => 0) ⟨#[], args, []⟩).memory :=
 laidMetH_of_parts3 (fuel := 8) (laidMet_of_run' 8 (by kernel_rfl) (by kernel_rfl)) (by kernel_rfl) (by kernel_rfl)
set_option maxRecDepth 100000 in
theorem lifted (os : Os) (started : os.Started) (H : Type) (enc : TypeId × Value → H) :
  ReturnsInHanded {} Tryz.checked os 6 .any (fun w args => (Rows.refineSameSpec.pre enc Tryz.prog Tryz.f6 [] false w args ∧ laidMetH Tryz.prog laid3 w) ∧ sizedMet enc Tryz.prog Tryz.f6 (OpenSpec.ofChange Rows.refineSameSpec) false w args)
   (Rows.refineSameSpec.post enc Tryz.prog Tryz.f6 false true false false) := by
 refine returnsInHanded_of_change_and (C := Tryz.checked) (X := fun w _ => laidMetH Tryz.prog laid3 w) (fun _ _ _ hh h => h.of_heap hh) own started (by kernel_rfl) Tryz.func6
  (ChangeSpec.witness_shaped (enc := enc) (C := Tryz.checked) (os := os) (X := fun w _ => laidMetH Tryz.prog laid3 w) false (World.doorLaid Tryz.prog 400 os) #[.agg #[.slice none 0 0, .int .i64 0], .agg #[.slice none 0 0, .int .i64 0], .agg #[.slice none 0 0, .int .i64 0]] 8 rfl (World.shaped_of_RefB (by kernel_rfl) (by kernel_rfl)) (by kernel_rfl) (by kernel_rfl) (by kernel_rfl) (door_met os _)) ?_
 intro W base args ds gs before hval0 hW _ hsz hL _
 have hval : ∀ (j : Nat) t v, Tryz.f6.params[j]? = some t → args[j]? = some v → Value.okWide Tryz.prog W .any base t v := hval0
 have hW' := hW
 obtain ⟨p, q, hA0, hV, rfl, hfz, hnd⟩ := hW
 have hA : DataW.TrodAll enc Tryz.prog W 0 (fun _ => true) true Tryz.f6.params.toList args.toList ds p := hA0
 have hw0 : (DataW.weightsEach Tryz.prog (Tryz.f6.params.toList ++ Rows.refineSameSpec.plain.varTypes Tryz.prog) (ds ++ gs)).all (· ≤ reachBytes) = true := hsz
 rw [Tryz.params6] at hA hval hw0
 obtain ⟨v0, v1, v2, d0, d1, d2, p0, p1, p2, rfl, rfl, rfl, h0, h1, h2⟩ := trodAll_three hA
 obtain ⟨rfl, rfl⟩ := trodVars_none hV
 obtain ⟨x, hx, hr0⟩ := arg_auto2 (hval 0 24 v0 rfl rfl) h0 (weightsEach_at hw0 0 24 d0 rfl rfl)
 obtain ⟨y, hy, hr1⟩ := arg_auto2 (hval 1 24 v1 rfl rfl) h1 (weightsEach_at hw0 1 24 d1 rfl rfl)
 obtain ⟨z, hz, hr2⟩ := arg_auto2 (hval 2 24 v2 rfl rfl) h2 (weightsEach_at hw0 2 24 d2 rfl rfl)
 clear hA0 hval0
 refine (enter_kept (E := En) En_ok (WR.all (glob_laid hL)) (args_three hr0 hr1 hr2) (refineSame_ok (g0 := G.none) rfl rfl lives16 x.L y.L z.L x.root y.root z.root hx.len hy.len hz.len hx.each hy.each hz.each)).mono ?_
 rintro e W' ⟨r, yv, v', g', rfl, ⟨rfl, _⟩, hyv, hk⟩
 obtain rfl := rep_bool hyv
 exact ⟨_, rfl, post_kept typesT_ok (by kernel_rfl) hW' rfl (fun _ _ _ => trodAll_mk1 (shut_bool Tryz.underlying4 _)) rfl rfl hk⟩
theorem refineSame_holds : Rows.RefineSameSaid :=
 OpenClaim.holds_of_wide 6 Tryz.f6 rfl rfl rfl rfl rfl rfl rfl ⟨rfl, rfl, rfl, rfl, rfl⟩ rfl rfl rfl rfl rfl (by kernel_rfl) Tryz.func6 (by kernel_rfl)
  (of_decide_eq_true (by kernel_rfl)) (by unfold Func.isWrapper; first | (rw [if_pos (by decide +kernel)]; kernel_rfl) | (rw [if_neg (by decide +kernel)]; exact ⟨rfl, rfl⟩))
  (fun os started H enc _ => lifted os started H enc)
theorem refineSame_card : Rows.RefineSameCardSaid :=
 Claim7.holds_tied_plain_at .later [] [.data, .data, .data] true (true, "9d82f9099ea9500a16a98d45364dc822a1b99501e8c65313cba146d52e56e36b") false
  refineSame_holds (fun _ h => by cases h) (by kernel_rfl) (fun _ h => by cases h) refineSame_row_tie rfl ⟨rfl, rfl⟩ (by kernel_rfl) rfl
  (fun f fn hf hfn => by
   obtain rfl : f = 6 := Option.some.inj ((show Tryz.prog.funcNamed "azimuth/azimuthlaw16.RefineSame" = some 6 by kernel_rfl).symm.trans hf) |>.symm
   obtain rfl : fn = Tryz.f6 := (Option.some.inj (Tryz.func6.symm.trans hfn)).symm
   exact ⟨by kernel_rfl, fun j t ht => by
    rw [Tryz.params6] at ht
    have hm : t ∈ [24] := by simpa using Array.mem_of_getElem? ht
    have hall : ([24].all fun u => !Tryz.prog.wantsStandIn u) = true := by kernel_rfl
    exact (show Tryz.prog.wantsStandIn t = false by simpa using List.all_eq_true.1 hall t hm)⟩)
  (by kernel_rfl)
#print axioms refineSame_card
end Go.Proofs.YtmknnanbmkmnjaaGreatDoor
