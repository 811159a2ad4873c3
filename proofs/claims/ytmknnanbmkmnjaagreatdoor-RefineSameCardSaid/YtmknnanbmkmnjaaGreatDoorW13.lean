/- Part 13 of the texts that the claim leans on: a judgement on the program over plain values, its soundness, and contracts of functions. -/
import Derived.Test.YtmknnanbmkmnjaaGreatDoorW12
set_option linter.unusedVariables false
set_option linter.unusedSimpArgs false
set_option linter.unusedVariables false
namespace Go.Vm
open Go Go.Proofs
attribute [local irreducible] wpL
set_option maxRecDepth 20000 in
theorem pstate_ok (L : Sl StateP) (root : Int) (s : StateP) (hL : L.l.length < 2 ^ 60) (hs : s.ok) : Pure En 37 [.agg ((AutoP.enc L root).map .p), .agg (s.enc.map .p)] (.p (.bool (pstateB L.l s))) := by
 have hs1 := hs.heads
 have hs2 := hs.vars
 refine pure_walk [(0, .agg ((AutoP.enc L root).map .p)), (1, .agg (s.enc.map .p))] Tryz.func37 rfl rfl rfl fun g hwo hwt => ?_
 show Wc En _ (Tryz.f37.body.getD .skip) [] (Sx 77 _ _ _ _ _ _)
 unfold Tryz.f37
 simp only [Option.getD_some]
 rw [← G.ext_nil g]
 refine wc_seq (wc_reg fun K hK => ?_)
 refine x_box rfl rfl rfl rfl rfl ?_
 refine x_box rfl rfl rfl rfl rfl ?_
 refine x_assign rfl rfl rfl ?_
 refine x_nil (hK _ ?_); clear hK K
 refine go_seq (wc_seq (wc_reg fun K hK => ?_))
 refine x_assign rfl rfl rfl ?_
 refine x_assign rfl rfl rfl ?_
 refine x_nil (hK _ ?_); clear hK K
 refine go_seq (wc_seq (wc_seq (wc_reg fun K hK => ?_)))
 refine x_fa rfl rfl rfl fld34_0 rfl ?_
 refine x_ldL rfl rfl rfl isag4 rfl rfl ?_
 refine x_not rfl rfl rfl ?_
 refine x_nil (hK _ ?_); clear hK K
 refine go_seq ?_
 refine xc_cond _ rfl (fun hc0 => ?_) (fun hc0 => ?_)
 ·have hpl : s.plus = false := by simpa using hc0
  have htk : tkK s.plus = 6 := by rw [hpl]; rfl
  have hct : ctK s.plus = 5 := by rw [hpl]; rfl
  refine wc_reg fun K hK => ?_
  refine x_move rfl rfl rfl ?_
  refine x_move rfl rfl rfl ?_
  refine x_assign rfl rfl rfl ?_
  refine x_assign rfl rfl rfl ?_
  refine x_nil (hK _ ?_); clear hK K
  refine go_seq (wc_seq (wc_reg fun K hK => ?_))
  refine x_assign rfl rfl rfl ?_
  refine x_nil (hK _ ?_); clear hK K
  refine go_seq (wc_seq (wc_seq (wc_reg fun K hK => ?_)))
  refine x_fa rfl rfl rfl fld34_1 rfl ?_
  refine x_ldL rfl rfl rfl isag32 rfl rfl ?_
  refine x_len rfl rfl rfl (by first | assumption | exact Rd.enc) und32 ?_
  refine x_move rfl rfl rfl ?_
  refine x_nil (hK _ ?_); clear hK K
  refine go_seq (wc_block ?_)
  refine xc_loopG [(2, _), (3, _), (5, _), (6, _), (16, _), (17, _)] [(2, _), (3, _)] (fun j : Nat => [(7, accV eInt g.toks.length 1 ((s.heads.l.take j).map (·.kind))), (18, .p (.int .i64 j))]) (fun j : Nat => []) (fun j : Nat => g.ext [] (accT ((s.heads.l.take j).map (·.kind)))) (fun j : Nat => j ≤ s.heads.l.length ∧ ∀ i, i < j → ∃ c, s.heads.l[i]? = some c ∧ fitB L.l s c = true) (fun j : Nat => s.heads.l.length - j) 0 (by repeat first | exact trivial | refine .intro rfl ?_) (by repeat first | exact trivial | refine .intro rfl ?_) rfl ⟨Nat.zero_le _, fun i hi => by omega⟩ ?_
  rintro j R hR1 hR2 ⟨hj, hr⟩ b rb
  refine wc_seq (wc_reg fun K hK => ?_)
  refine x_bin rfl rfl rfl rfl rfl ?_
  refine x_nil (hK _ ?_); clear hK K
  refine go_seq (wc_seq ?_)
  refine xc_cond _ rfl (fun hc1 => ?_) (fun hc1 => ?_)
  ·have hlt : j < s.heads.l.length := by simp at hc1; omega
   obtain ⟨h, e1⟩ : ∃ h, s.heads.l[j]? = some h := ⟨_, List.getElem?_eq_getElem hlt⟩
   have hm : h ∈ s.heads.l := List.mem_of_getElem? e1
   have hks := kinds_up e1
   refine wc_skip (go_seq (wc_seq (wc_block (wc_seq (wc_reg fun K hK => ?_)))))
   refine x_ia rfl rfl rfl (by first | assumption | exact Rd.enc) rfl und32 sz37 rfl (by assumption) rfl ?_
   refine x_ldRA rfl rfl rfl isag37 sz37 rfl ?_
   refine x_alloc rfl rfl rfl zero37 rfl ?_
   refine x_stL rfl rfl rfl sz37 rfl rfl rfl rfl ?_
   refine x_nil (hK _ ?_); clear hK K
   refine go_seq (wc_seq (wc_reg fun K hK => ?_))
   refine x_move rfl rfl rfl ?_
   refine x_fa rfl rfl rfl fld37_0 rfl ?_
   refine x_ldL rfl rfl rfl isag3 rfl rfl ?_
   refine x_bs rfl rfl rfl el27 sz3 zero3 rfl rfl rfl ?_
   refine x_acc rfl rfl rfl hwt rfl rfl (rd_one _) el27 und27 zero3 inf3 rfl (fun _ => rfl) (by simp; omega) ?_
   refine x_assign rfl rfl rfl ?_
   refine x_nil (hK _ ?_); clear hK K
   refine go_seq (wc_seq (wc_reg fun K hK => ?_))
   refine x_ldLA rfl rfl rfl isag24 sz24 rfl rfl ?_
   refine x_ldLA rfl rfl rfl isag34 sz34 rfl rfl ?_
   refine x_ldLA rfl rfl rfl isag37 sz37 rfl rfl ?_
   refine x_call rfl rfl rfl (by repeat (first | exact ho_nil | refine ho_cons (by first | rfl | exact rd_ho (by assumption)) ?_)) okf64 (phead_ok L root s h hL (hs.each h hm) _) ?_
   refine x_not rfl rfl rfl ?_
   refine x_moveS rfl rfl rfl (fun hg32 => ?_) (fun hg32 => ?_)
   ·refine x_skip rfl rfl ?_
    refine x_skip rfl rfl ?_
    refine x_skip rfl rfl ?_
    refine x_skip rfl rfl ?_
    refine x_pickT rfl rfl rfl rfl ?_
    refine x_move rfl rfl rfl ?_
    refine x_skip rfl rfl ?_
    refine x_skip rfl rfl ?_
    refine x_skip rfl rfl ?_
    refine x_skip rfl rfl ?_
    refine x_skip rfl rfl ?_
    refine x_skip rfl rfl ?_
    refine x_skip rfl rfl ?_
    refine x_skip rfl rfl ?_
    refine x_skip rfl rfl ?_
    refine x_skip rfl rfl ?_
    refine x_skip rfl rfl ?_
    refine x_skip rfl rfl ?_
    refine x_skip rfl rfl ?_
    refine x_skip rfl rfl ?_
    refine x_skip rfl rfl ?_
    refine x_skip rfl rfl ?_
    refine x_pickT rfl rfl rfl rfl ?_
    refine x_nil (hK _ ?_); clear hK K
    refine go_seq ?_
    refine xc_cond true rfl (fun _ => ?_) (fun h => by cases h)
    refine wc_seq (wc_reg fun K hK => ?_)
    refine x_assign rfl rfl rfl ?_
    refine x_nil (hK _ ?_); clear hK K
    refine go_seq (wc_ret (go_blk_ret (go_seq_ret ?_)))
    refine hR2 _ _ (by simp) ?_
    refine go_blk_ret (go_seq_ret ?_)
    have hf : fitB L.l s h = false := by have e : pheadB L.l s.plus h = false := (by simpa using hg32); simp only [fitB, e, Bool.false_and]
    exact x_end1 (Or.inr rfl) rfl rfl rfl rfl rfl rfl (by congr 2; simp only [pstateB, all_not (p := fitB L.l s) hm hf, Bool.false_and])
   ·refine x_fa rfl rfl rfl fld37_0 rfl ?_
    refine x_ldL rfl rfl rfl isag3 rfl rfl ?_
    refine x_move rfl rfl rfl ?_
    refine x_bin rfl rfl rfl rfl rfl ?_
    refine x_pickF rfl rfl rfl rfl ?_
    refine x_moveS rfl rfl rfl (fun hg38 => ?_) (fun hg38 => ?_)
    ·refine x_skip rfl rfl ?_
     refine x_skip rfl rfl ?_
     refine x_skip rfl rfl ?_
     refine x_skip rfl rfl ?_
     refine x_skip rfl rfl ?_
     refine x_skip rfl rfl ?_
     refine x_skip rfl rfl ?_
     refine x_skip rfl rfl ?_
     refine x_skip rfl rfl ?_
     refine x_skip rfl rfl ?_
     refine x_skip rfl rfl ?_
     refine x_skip rfl rfl ?_
     refine x_skip rfl rfl ?_
     refine x_skip rfl rfl ?_
     refine x_skip rfl rfl ?_
     refine x_skip rfl rfl ?_
     refine x_pickT rfl rfl rfl rfl ?_
     refine x_nil (hK _ ?_); clear hK K
     refine go_seq ?_
     refine xc_cond true rfl (fun _ => ?_) (fun h => by cases h)
     refine wc_seq (wc_reg fun K hK => ?_)
     refine x_assign rfl rfl rfl ?_
     refine x_nil (hK _ ?_); clear hK K
     refine go_seq (wc_ret (go_blk_ret (go_seq_ret ?_)))
     refine hR2 _ _ (by simp) ?_
     refine go_blk_ret (go_seq_ret ?_)
     have hf : fitB L.l s h = false := by simp only [fitB, hct, hg38]; simp
     exact x_end1 (Or.inr rfl) rfl rfl rfl rfl rfl rfl (by congr 2; simp only [pstateB, all_not (p := fitB L.l s) hm hf, Bool.false_and])
    ·refine x_fa rfl rfl rfl fld37_0 rfl ?_
     refine x_ldL rfl rfl rfl isag3 rfl rfl ?_
     refine x_move rfl rfl rfl ?_
     refine x_bin rfl rfl rfl rfl rfl ?_
     refine x_moveS rfl rfl rfl (fun hg43 => ?_) (fun hg43 => ?_)
     ·refine x_fa rfl rfl rfl fld34_1 rfl ?_
      refine x_ldL rfl rfl rfl isag32 rfl rfl ?_
      refine x_len rfl rfl rfl (by first | assumption | exact Rd.enc) und32 ?_
      refine x_bin rfl rfl rfl rfl rfl ?_
      refine x_moveS rfl rfl rfl (fun hg48 => ?_) (fun hg48 => ?_)
      ·refine x_skip rfl rfl ?_
       refine x_skip rfl rfl ?_
       refine x_skip rfl rfl ?_
       refine x_skip rfl rfl ?_
       refine x_pickT rfl rfl rfl rfl ?_
       refine x_pickT rfl rfl rfl rfl ?_
       refine x_pickF rfl rfl rfl rfl ?_
       refine x_nil (hK _ ?_); clear hK K
       refine go_seq ?_
       refine xc_cond true rfl (fun _ => ?_) (fun h => by cases h)
       refine wc_seq (wc_reg fun K hK => ?_)
       refine x_assign rfl rfl rfl ?_
       refine x_nil (hK _ ?_); clear hK K
       refine go_seq (wc_ret (go_blk_ret (go_seq_ret ?_)))
       refine hR2 _ _ (by simp) ?_
       refine go_blk_ret (go_seq_ret ?_)
       have hf : fitB L.l s h = false := by have e : decide (1 < s.heads.l.length) = true := (by simp only [decide_eq_true_eq] at hg48 ⊢; omega); simp only [fitB, htk, hg43, e]; simp
       exact x_end1 (Or.inr rfl) rfl rfl rfl rfl rfl rfl (by congr 2; simp only [pstateB, all_not (p := fitB L.l s) hm hf, Bool.false_and])
      ·refine x_fa rfl rfl rfl fld34_2 rfl ?_
       refine x_ldL rfl rfl rfl isag27 rfl rfl ?_
       refine x_len rfl rfl rfl (by first | assumption | exact Rd.enc) und27 ?_
       refine x_bin rfl rfl rfl rfl rfl ?_
       refine x_pickF rfl rfl rfl rfl ?_
       refine x_pickT rfl rfl rfl rfl ?_
       refine x_pickF rfl rfl rfl rfl ?_
       refine x_nil (hK _ ?_); clear hK K
       refine go_seq ?_
       refine xc_cond _ rfl (fun hc2 => ?_) (fun hc2 => ?_)
       ·refine wc_seq (wc_reg fun K hK => ?_)
        refine x_assign rfl rfl rfl ?_
        refine x_nil (hK _ ?_); clear hK K
        refine go_seq (wc_ret (go_blk_ret (go_seq_ret ?_)))
        refine hR2 _ _ (by simp) ?_
        refine go_blk_ret (go_seq_ret ?_)
        have hf : fitB L.l s h = false := by have e : decide (0 < s.vars.l.length) = true := (by simp only [decide_eq_true_eq] at hc2 ⊢; omega); simp only [fitB, htk, hg43, e]; simp
        exact x_end1 (Or.inr rfl) rfl rfl rfl rfl rfl rfl (by congr 2; simp only [pstateB, all_not (p := fitB L.l s) hm hf, Bool.false_and])
       ·refine wc_skip (go_blk (go_seq (wc_reg fun K hK => ?_)))
        refine x_inc rfl rfl rfl rfl (by omega) ?_
        refine x_move rfl rfl rfl ?_
        refine x_nil (hK _ ?_); clear hK K
        have hf : fitB L.l s h = true := by have a1 : pheadB L.l s.plus h = true := (by simpa using hg32); have a2 : decide (1 < s.heads.l.length) = false := (by simp only [decide_eq_false_iff_not] at hg48 ⊢; omega); have a3 : decide (0 < s.vars.l.length) = false := (by simp only [decide_eq_false_iff_not] at hc2 ⊢; omega); simp only [fitB, a1, hct, hg38, htk, hg43, a2, a3]; rfl
        exact hR1 (j + 1) _ _ _ _ _ ⟨hlt, leadP_up (p := fitB L.l s) hr e1 hf⟩ (by omega) (by repeat (first | exact trivial | refine And.intro rfl ?_ | refine And.intro (by simp only [hks]; rfl) ?_)) (by repeat first | exact trivial | refine .intro rfl ?_) (by rw [hks])
     ·refine x_skip rfl rfl ?_
      refine x_skip rfl rfl ?_
      refine x_skip rfl rfl ?_
      refine x_skip rfl rfl ?_
      refine x_skip rfl rfl ?_
      refine x_skip rfl rfl ?_
      refine x_skip rfl rfl ?_
      refine x_skip rfl rfl ?_
      refine x_skip rfl rfl ?_
      refine x_skip rfl rfl ?_
      refine x_pickF rfl rfl rfl rfl ?_
      refine x_pickF rfl rfl rfl rfl ?_
      refine x_nil (hK _ ?_); clear hK K
      refine go_seq ?_
      refine xc_cond false rfl (fun h => by cases h) (fun _ => ?_)
      refine wc_skip (go_blk (go_seq (wc_reg fun K hK => ?_)))
      refine x_inc rfl rfl rfl rfl (by omega) ?_
      refine x_move rfl rfl rfl ?_
      refine x_nil (hK _ ?_); clear hK K
      have hf : fitB L.l s h = true := by have a1 : pheadB L.l s.plus h = true := (by simpa using hg32); simp only [fitB, a1, hct, hg38, htk, hg43]; rfl
      exact hR1 (j + 1) _ _ _ _ _ ⟨hlt, leadP_up (p := fitB L.l s) hr e1 hf⟩ (by omega) (by repeat (first | exact trivial | refine And.intro rfl ?_ | refine And.intro (by simp only [hks]; rfl) ?_)) (by repeat first | exact trivial | refine .intro rfl ?_) (by rw [hks])
  ·have hall : s.heads.l.all (fitB L.l s) = true := all_lead fun i hi => hr i (by simp at hc1; omega)
   have hK : (s.heads.l.take j).map (·.kind) = s.heads.l.map (·.kind) := by rw [List.take_of_length_le (by simp at hc1; omega)]
   refine wc_exit ?_
   refine go_seq_exit ?_
   refine hR2 _ _ (by simp) ?_
   refine go_blk_exit (go_seq (wc_seq (wc_reg fun K hK => ?_)))
   have hrd : Rd eInt (accV eInt g.toks.length 1 (List.map (fun x => x.kind) (List.take j s.heads.l))) _ := Rd.acc
   refine x_move rfl rfl rfl ?_
   refine x_call rfl rfl rfl (by repeat (first | exact ho_nil | refine ho_cons (by first | rfl | exact rd_ho (by assumption)) ?_)) okf65 (risingI_ok Rd.acc (by simp; omega) _) ?_
   refine x_moveS rfl rfl rfl (fun hg59 => ?_) (fun hg59 => ?_)
   ·refine x_fa rfl rfl rfl fld34_2 rfl ?_
    refine x_ldL rfl rfl rfl isag27 rfl rfl ?_
    refine x_call rfl rfl rfl (by repeat (first | exact ho_nil | refine ho_cons (by first | rfl | exact rd_ho (by assumption)) ?_)) okf65 (risingI_ok Rd.enc (by omega) _) ?_
    refine x_pickT rfl rfl rfl rfl ?_
    refine x_moveS rfl rfl rfl (fun hg64 => ?_) (fun hg64 => ?_)
    ·refine x_fa rfl rfl rfl fld34_2 rfl ?_
     refine x_ldL rfl rfl rfl isag27 rfl rfl ?_
     refine x_len rfl rfl rfl (by first | assumption | exact Rd.enc) und27 ?_
     refine x_bin rfl rfl rfl rfl rfl ?_
     refine x_moveS rfl rfl rfl (fun hg69 => ?_) (fun hg69 => ?_)
     ·refine x_skip rfl rfl ?_
      refine x_skip rfl rfl ?_
      refine x_skip rfl rfl ?_
      refine x_skip rfl rfl ?_
      refine x_skip rfl rfl ?_
      refine x_pickT rfl rfl rfl rfl ?_
      refine x_pickT rfl rfl rfl rfl ?_
      refine x_assign rfl rfl rfl ?_
      refine x_nil (hK _ ?_); clear hK K
      refine go_seq (wc_ret ?_)
      exact x_end1 (Or.inr rfl) rfl rfl rfl rfl rfl rfl (by congr 2; rw [hK] at hg59; have e : (s.vars.l.length == 0) = true := (by simp only [beq_iff_eq] at hg69 ⊢; omega); simp only [pstateB, hall, hg59, hg64, e, Bool.true_and, Bool.true_or])
     ·obtain ⟨v0, e0⟩ : ∃ v0, s.vars.l[(0 : Int).toNat]? = some v0 := ⟨_, List.getElem?_eq_getElem (by simp only [beq_eq_false_iff_ne, ne_eq] at hg69; show 0 < _; omega)⟩
      refine x_fa rfl rfl rfl fld34_2 rfl ?_
      refine x_ldL rfl rfl rfl isag27 rfl rfl ?_
      refine x_iaI rfl rfl rfl Rd.enc rfl und27 sz3 rfl (by omega) e0 rfl ?_
      refine x_ldR rfl rfl rfl isag3 rfl ?_
      refine x_bin rfl rfl rfl rfl rfl ?_
      refine x_pickF rfl rfl rfl rfl ?_
      refine x_pickT rfl rfl rfl rfl ?_
      refine x_assign rfl rfl rfl ?_
      refine x_nil (hK _ ?_); clear hK K
      refine go_seq (wc_ret ?_)
      exact x_end1 (Or.inr rfl) rfl rfl rfl rfl rfl rfl (by congr 2; rw [hK] at hg59; have e : (s.vars.l.length == 0) = false := (by simp only [beq_eq_false_iff_ne, ne_eq] at hg69 ⊢; omega); have e2 : s.vars.l.getD 0 0 = v0 := (by rw [List.getD_eq_getElem?_getD]; rw [show s.vars.l[0]? = some v0 from e0]; rfl); simp only [pstateB, hall, hg59, hg64, e, e2, Bool.true_and, Bool.false_or])
    ·refine x_skip rfl rfl ?_
     refine x_skip rfl rfl ?_
     refine x_skip rfl rfl ?_
     refine x_skip rfl rfl ?_
     refine x_skip rfl rfl ?_
     refine x_skip rfl rfl ?_
     refine x_skip rfl rfl ?_
     refine x_skip rfl rfl ?_
     refine x_skip rfl rfl ?_
     refine x_skip rfl rfl ?_
     refine x_skip rfl rfl ?_
     refine x_pickF rfl rfl rfl rfl ?_
     refine x_assign rfl rfl rfl ?_
     refine x_nil (hK _ ?_); clear hK K
     refine go_seq (wc_ret ?_)
     exact x_end1 (Or.inr rfl) rfl rfl rfl rfl rfl rfl (by congr 2; rw [hK] at hg59; simp only [pstateB, hall, hg59, hg64, Bool.true_and, Bool.false_and])
   ·refine x_skip rfl rfl ?_
    refine x_skip rfl rfl ?_
    refine x_skip rfl rfl ?_
    refine x_pickF rfl rfl rfl rfl ?_
    refine x_move rfl rfl rfl ?_
    refine x_skip rfl rfl ?_
    refine x_skip rfl rfl ?_
    refine x_skip rfl rfl ?_
    refine x_skip rfl rfl ?_
    refine x_skip rfl rfl ?_
    refine x_skip rfl rfl ?_
    refine x_skip rfl rfl ?_
    refine x_skip rfl rfl ?_
    refine x_skip rfl rfl ?_
    refine x_skip rfl rfl ?_
    refine x_skip rfl rfl ?_
    refine x_pickF rfl rfl rfl rfl ?_
    refine x_assign rfl rfl rfl ?_
    refine x_nil (hK _ ?_); clear hK K
    refine go_seq (wc_ret ?_)
    exact x_end1 (Or.inr rfl) rfl rfl rfl rfl rfl rfl (by congr 2; rw [hK] at hg59; simp only [pstateB, hall, hg59, Bool.true_and, Bool.false_and])
 ·have hpl : s.plus = true := by simpa using hc0
  have htk : tkK s.plus = 5 := by rw [hpl]; rfl
  have hct : ctK s.plus = 6 := by rw [hpl]; rfl
  refine wc_skip (go_seq (wc_seq (wc_reg fun K hK => ?_)))
  refine x_assign rfl rfl rfl ?_
  refine x_nil (hK _ ?_); clear hK K
  refine go_seq (wc_seq (wc_seq (wc_reg fun K hK => ?_)))
  refine x_fa rfl rfl rfl fld34_1 rfl ?_
  refine x_ldL rfl rfl rfl isag32 rfl rfl ?_
  refine x_len rfl rfl rfl (by first | assumption | exact Rd.enc) und32 ?_
  refine x_move rfl rfl rfl ?_
  refine x_nil (hK _ ?_); clear hK K
  refine go_seq (wc_block ?_)
  refine xc_loopG [(2, _), (3, _), (5, _), (6, _), (16, _), (17, _)] [(2, _), (3, _)] (fun j : Nat => [(7, accV eInt g.toks.length 1 ((s.heads.l.take j).map (·.kind))), (18, .p (.int .i64 j))]) (fun j : Nat => []) (fun j : Nat => g.ext [] (accT ((s.heads.l.take j).map (·.kind)))) (fun j : Nat => j ≤ s.heads.l.length ∧ ∀ i, i < j → ∃ c, s.heads.l[i]? = some c ∧ fitB L.l s c = true) (fun j : Nat => s.heads.l.length - j) 0 (by repeat first | exact trivial | refine .intro rfl ?_) (by repeat first | exact trivial | refine .intro rfl ?_) rfl ⟨Nat.zero_le _, fun i hi => by omega⟩ ?_
  rintro j R hR1 hR2 ⟨hj, hr⟩ b rb
  refine wc_seq (wc_reg fun K hK => ?_)
  refine x_bin rfl rfl rfl rfl rfl ?_
  refine x_nil (hK _ ?_); clear hK K
  refine go_seq (wc_seq ?_)
  refine xc_cond _ rfl (fun hc3 => ?_) (fun hc3 => ?_)
  ·have hlt : j < s.heads.l.length := by simp at hc3; omega
   obtain ⟨h, e1⟩ : ∃ h, s.heads.l[j]? = some h := ⟨_, List.getElem?_eq_getElem hlt⟩
   have hm : h ∈ s.heads.l := List.mem_of_getElem? e1
   have hks := kinds_up e1
   refine wc_skip (go_seq (wc_seq (wc_block (wc_seq (wc_reg fun K hK => ?_)))))
   refine x_ia rfl rfl rfl (by first | assumption | exact Rd.enc) rfl und32 sz37 rfl (by assumption) rfl ?_
   refine x_ldRA rfl rfl rfl isag37 sz37 rfl ?_
   refine x_alloc rfl rfl rfl zero37 rfl ?_
   refine x_stL rfl rfl rfl sz37 rfl rfl rfl rfl ?_
   refine x_nil (hK _ ?_); clear hK K
   refine go_seq (wc_seq (wc_reg fun K hK => ?_))
   refine x_move rfl rfl rfl ?_
   refine x_fa rfl rfl rfl fld37_0 rfl ?_
   refine x_ldL rfl rfl rfl isag3 rfl rfl ?_
   refine x_bs rfl rfl rfl el27 sz3 zero3 rfl rfl rfl ?_
   refine x_acc rfl rfl rfl hwt rfl rfl (rd_one _) el27 und27 zero3 inf3 rfl (fun _ => rfl) (by simp; omega) ?_
   refine x_assign rfl rfl rfl ?_
   refine x_nil (hK _ ?_); clear hK K
   refine go_seq (wc_seq (wc_reg fun K hK => ?_))
   refine x_ldLA rfl rfl rfl isag24 sz24 rfl rfl ?_
   refine x_ldLA rfl rfl rfl isag34 sz34 rfl rfl ?_
   refine x_ldLA rfl rfl rfl isag37 sz37 rfl rfl ?_
   refine x_call rfl rfl rfl (by repeat (first | exact ho_nil | refine ho_cons (by first | rfl | exact rd_ho (by assumption)) ?_)) okf64 (phead_ok L root s h hL (hs.each h hm) _) ?_
   refine x_not rfl rfl rfl ?_
   refine x_moveS rfl rfl rfl (fun hg32 => ?_) (fun hg32 => ?_)
   ·refine x_skip rfl rfl ?_
    refine x_skip rfl rfl ?_
    refine x_skip rfl rfl ?_
    refine x_skip rfl rfl ?_
    refine x_pickT rfl rfl rfl rfl ?_
    refine x_move rfl rfl rfl ?_
    refine x_skip rfl rfl ?_
    refine x_skip rfl rfl ?_
    refine x_skip rfl rfl ?_
    refine x_skip rfl rfl ?_
    refine x_skip rfl rfl ?_
    refine x_skip rfl rfl ?_
    refine x_skip rfl rfl ?_
    refine x_skip rfl rfl ?_
    refine x_skip rfl rfl ?_
    refine x_skip rfl rfl ?_
    refine x_skip rfl rfl ?_
    refine x_skip rfl rfl ?_
    refine x_skip rfl rfl ?_
    refine x_skip rfl rfl ?_
    refine x_skip rfl rfl ?_
    refine x_skip rfl rfl ?_
    refine x_pickT rfl rfl rfl rfl ?_
    refine x_nil (hK _ ?_); clear hK K
    refine go_seq ?_
    refine xc_cond true rfl (fun _ => ?_) (fun h => by cases h)
    refine wc_seq (wc_reg fun K hK => ?_)
    refine x_assign rfl rfl rfl ?_
    refine x_nil (hK _ ?_); clear hK K
    refine go_seq (wc_ret (go_blk_ret (go_seq_ret ?_)))
    refine hR2 _ _ (by simp) ?_
    refine go_blk_ret (go_seq_ret ?_)
    have hf : fitB L.l s h = false := by have e : pheadB L.l s.plus h = false := (by simpa using hg32); simp only [fitB, e, Bool.false_and]
    exact x_end1 (Or.inr rfl) rfl rfl rfl rfl rfl rfl (by congr 2; simp only [pstateB, all_not (p := fitB L.l s) hm hf, Bool.false_and])
   ·refine x_fa rfl rfl rfl fld37_0 rfl ?_
    refine x_ldL rfl rfl rfl isag3 rfl rfl ?_
    refine x_move rfl rfl rfl ?_
    refine x_bin rfl rfl rfl rfl rfl ?_
    refine x_pickF rfl rfl rfl rfl ?_
    refine x_moveS rfl rfl rfl (fun hg38 => ?_) (fun hg38 => ?_)
    ·refine x_skip rfl rfl ?_
     refine x_skip rfl rfl ?_
     refine x_skip rfl rfl ?_
     refine x_skip rfl rfl ?_
     refine x_skip rfl rfl ?_
     refine x_skip rfl rfl ?_
     refine x_skip rfl rfl ?_
     refine x_skip rfl rfl ?_
     refine x_skip rfl rfl ?_
     refine x_skip rfl rfl ?_
     refine x_skip rfl rfl ?_
     refine x_skip rfl rfl ?_
     refine x_skip rfl rfl ?_
     refine x_skip rfl rfl ?_
     refine x_skip rfl rfl ?_
     refine x_skip rfl rfl ?_
     refine x_pickT rfl rfl rfl rfl ?_
     refine x_nil (hK _ ?_); clear hK K
     refine go_seq ?_
     refine xc_cond true rfl (fun _ => ?_) (fun h => by cases h)
     refine wc_seq (wc_reg fun K hK => ?_)
     refine x_assign rfl rfl rfl ?_
     refine x_nil (hK _ ?_); clear hK K
     refine go_seq (wc_ret (go_blk_ret (go_seq_ret ?_)))
     refine hR2 _ _ (by simp) ?_
     refine go_blk_ret (go_seq_ret ?_)
     have hf : fitB L.l s h = false := by simp only [fitB, hct, hg38]; simp
     exact x_end1 (Or.inr rfl) rfl rfl rfl rfl rfl rfl (by congr 2; simp only [pstateB, all_not (p := fitB L.l s) hm hf, Bool.false_and])
    ·refine x_fa rfl rfl rfl fld37_0 rfl ?_
     refine x_ldL rfl rfl rfl isag3 rfl rfl ?_
     refine x_move rfl rfl rfl ?_
     refine x_bin rfl rfl rfl rfl rfl ?_
     refine x_moveS rfl rfl rfl (fun hg43 => ?_) (fun hg43 => ?_)
     ·refine x_fa rfl rfl rfl fld34_1 rfl ?_
      refine x_ldL rfl rfl rfl isag32 rfl rfl ?_
      refine x_len rfl rfl rfl (by first | assumption | exact Rd.enc) und32 ?_
      refine x_bin rfl rfl rfl rfl rfl ?_
      refine x_moveS rfl rfl rfl (fun hg48 => ?_) (fun hg48 => ?_)
      ·refine x_skip rfl rfl ?_
       refine x_skip rfl rfl ?_
       refine x_skip rfl rfl ?_
       refine x_skip rfl rfl ?_
       refine x_pickT rfl rfl rfl rfl ?_
       refine x_pickT rfl rfl rfl rfl ?_
       refine x_pickF rfl rfl rfl rfl ?_
       refine x_nil (hK _ ?_); clear hK K
       refine go_seq ?_
       refine xc_cond true rfl (fun _ => ?_) (fun h => by cases h)
       refine wc_seq (wc_reg fun K hK => ?_)
       refine x_assign rfl rfl rfl ?_
       refine x_nil (hK _ ?_); clear hK K
       refine go_seq (wc_ret (go_blk_ret (go_seq_ret ?_)))
       refine hR2 _ _ (by simp) ?_
       refine go_blk_ret (go_seq_ret ?_)
       have hf : fitB L.l s h = false := by have e : decide (1 < s.heads.l.length) = true := (by simp only [decide_eq_true_eq] at hg48 ⊢; omega); simp only [fitB, htk, hg43, e]; simp
       exact x_end1 (Or.inr rfl) rfl rfl rfl rfl rfl rfl (by congr 2; simp only [pstateB, all_not (p := fitB L.l s) hm hf, Bool.false_and])
      ·refine x_fa rfl rfl rfl fld34_2 rfl ?_
       refine x_ldL rfl rfl rfl isag27 rfl rfl ?_
       refine x_len rfl rfl rfl (by first | assumption | exact Rd.enc) und27 ?_
       refine x_bin rfl rfl rfl rfl rfl ?_
       refine x_pickF rfl rfl rfl rfl ?_
       refine x_pickT rfl rfl rfl rfl ?_
       refine x_pickF rfl rfl rfl rfl ?_
       refine x_nil (hK _ ?_); clear hK K
       refine go_seq ?_
       refine xc_cond _ rfl (fun hc4 => ?_) (fun hc4 => ?_)
       ·refine wc_seq (wc_reg fun K hK => ?_)
        refine x_assign rfl rfl rfl ?_
        refine x_nil (hK _ ?_); clear hK K
        refine go_seq (wc_ret (go_blk_ret (go_seq_ret ?_)))
        refine hR2 _ _ (by simp) ?_
        refine go_blk_ret (go_seq_ret ?_)
        have hf : fitB L.l s h = false := by have e : decide (0 < s.vars.l.length) = true := (by simp only [decide_eq_true_eq] at hc4 ⊢; omega); simp only [fitB, htk, hg43, e]; simp
        exact x_end1 (Or.inr rfl) rfl rfl rfl rfl rfl rfl (by congr 2; simp only [pstateB, all_not (p := fitB L.l s) hm hf, Bool.false_and])
       ·refine wc_skip (go_blk (go_seq (wc_reg fun K hK => ?_)))
        refine x_inc rfl rfl rfl rfl (by omega) ?_
        refine x_move rfl rfl rfl ?_
        refine x_nil (hK _ ?_); clear hK K
        have hf : fitB L.l s h = true := by have a1 : pheadB L.l s.plus h = true := (by simpa using hg32); have a2 : decide (1 < s.heads.l.length) = false := (by simp only [decide_eq_false_iff_not] at hg48 ⊢; omega); have a3 : decide (0 < s.vars.l.length) = false := (by simp only [decide_eq_false_iff_not] at hc4 ⊢; omega); simp only [fitB, a1, hct, hg38, htk, hg43, a2, a3]; rfl
        exact hR1 (j + 1) _ _ _ _ _ ⟨hlt, leadP_up (p := fitB L.l s) hr e1 hf⟩ (by omega) (by repeat (first | exact trivial | refine And.intro rfl ?_ | refine And.intro (by simp only [hks]; rfl) ?_)) (by repeat first | exact trivial | refine .intro rfl ?_) (by rw [hks])
     ·refine x_skip rfl rfl ?_
      refine x_skip rfl rfl ?_
      refine x_skip rfl rfl ?_
      refine x_skip rfl rfl ?_
      refine x_skip rfl rfl ?_
      refine x_skip rfl rfl ?_
      refine x_skip rfl rfl ?_
      refine x_skip rfl rfl ?_
      refine x_skip rfl rfl ?_
      refine x_skip rfl rfl ?_
      refine x_pickF rfl rfl rfl rfl ?_
      refine x_pickF rfl rfl rfl rfl ?_
      refine x_nil (hK _ ?_); clear hK K
      refine go_seq ?_
      refine xc_cond false rfl (fun h => by cases h) (fun _ => ?_)
      refine wc_skip (go_blk (go_seq (wc_reg fun K hK => ?_)))
      refine x_inc rfl rfl rfl rfl (by omega) ?_
      refine x_move rfl rfl rfl ?_
      refine x_nil (hK _ ?_); clear hK K
      have hf : fitB L.l s h = true := by have a1 : pheadB L.l s.plus h = true := (by simpa using hg32); simp only [fitB, a1, hct, hg38, htk, hg43]; rfl
      exact hR1 (j + 1) _ _ _ _ _ ⟨hlt, leadP_up (p := fitB L.l s) hr e1 hf⟩ (by omega) (by repeat (first | exact trivial | refine And.intro rfl ?_ | refine And.intro (by simp only [hks]; rfl) ?_)) (by repeat first | exact trivial | refine .intro rfl ?_) (by rw [hks])
  ·have hall : s.heads.l.all (fitB L.l s) = true := all_lead fun i hi => hr i (by simp at hc3; omega)
   have hK : (s.heads.l.take j).map (·.kind) = s.heads.l.map (·.kind) := by rw [List.take_of_length_le (by simp at hc3; omega)]
   refine wc_exit ?_
   refine go_seq_exit ?_
   refine hR2 _ _ (by simp) ?_
   refine go_blk_exit (go_seq (wc_seq (wc_reg fun K hK => ?_)))
   have hrd : Rd eInt (accV eInt g.toks.length 1 (List.map (fun x => x.kind) (List.take j s.heads.l))) _ := Rd.acc
   refine x_move rfl rfl rfl ?_
   refine x_call rfl rfl rfl (by repeat (first | exact ho_nil | refine ho_cons (by first | rfl | exact rd_ho (by assumption)) ?_)) okf65 (risingI_ok Rd.acc (by simp; omega) _) ?_
   refine x_moveS rfl rfl rfl (fun hg59 => ?_) (fun hg59 => ?_)
   ·refine x_fa rfl rfl rfl fld34_2 rfl ?_
    refine x_ldL rfl rfl rfl isag27 rfl rfl ?_
    refine x_call rfl rfl rfl (by repeat (first | exact ho_nil | refine ho_cons (by first | rfl | exact rd_ho (by assumption)) ?_)) okf65 (risingI_ok Rd.enc (by omega) _) ?_
    refine x_pickT rfl rfl rfl rfl ?_
    refine x_moveS rfl rfl rfl (fun hg64 => ?_) (fun hg64 => ?_)
    ·refine x_fa rfl rfl rfl fld34_2 rfl ?_
     refine x_ldL rfl rfl rfl isag27 rfl rfl ?_
     refine x_len rfl rfl rfl (by first | assumption | exact Rd.enc) und27 ?_
     refine x_bin rfl rfl rfl rfl rfl ?_
     refine x_moveS rfl rfl rfl (fun hg69 => ?_) (fun hg69 => ?_)
     ·refine x_skip rfl rfl ?_
      refine x_skip rfl rfl ?_
      refine x_skip rfl rfl ?_
      refine x_skip rfl rfl ?_
      refine x_skip rfl rfl ?_
      refine x_pickT rfl rfl rfl rfl ?_
      refine x_pickT rfl rfl rfl rfl ?_
      refine x_assign rfl rfl rfl ?_
      refine x_nil (hK _ ?_); clear hK K
      refine go_seq (wc_ret ?_)
      exact x_end1 (Or.inr rfl) rfl rfl rfl rfl rfl rfl (by congr 2; rw [hK] at hg59; have e : (s.vars.l.length == 0) = true := (by simp only [beq_iff_eq] at hg69 ⊢; omega); simp only [pstateB, hall, hg59, hg64, e, Bool.true_and, Bool.true_or])
     ·obtain ⟨v0, e0⟩ : ∃ v0, s.vars.l[(0 : Int).toNat]? = some v0 := ⟨_, List.getElem?_eq_getElem (by simp only [beq_eq_false_iff_ne, ne_eq] at hg69; show 0 < _; omega)⟩
      refine x_fa rfl rfl rfl fld34_2 rfl ?_
      refine x_ldL rfl rfl rfl isag27 rfl rfl ?_
      refine x_iaI rfl rfl rfl Rd.enc rfl und27 sz3 rfl (by omega) e0 rfl ?_
      refine x_ldR rfl rfl rfl isag3 rfl ?_
      refine x_bin rfl rfl rfl rfl rfl ?_
      refine x_pickF rfl rfl rfl rfl ?_
      refine x_pickT rfl rfl rfl rfl ?_
      refine x_assign rfl rfl rfl ?_
      refine x_nil (hK _ ?_); clear hK K
      refine go_seq (wc_ret ?_)
      exact x_end1 (Or.inr rfl) rfl rfl rfl rfl rfl rfl (by congr 2; rw [hK] at hg59; have e : (s.vars.l.length == 0) = false := (by simp only [beq_eq_false_iff_ne, ne_eq] at hg69 ⊢; omega); have e2 : s.vars.l.getD 0 0 = v0 := (by rw [List.getD_eq_getElem?_getD]; rw [show s.vars.l[0]? = some v0 from e0]; rfl); simp only [pstateB, hall, hg59, hg64, e, e2, Bool.true_and, Bool.false_or])
    ·refine x_skip rfl rfl ?_
     refine x_skip rfl rfl ?_
     refine x_skip rfl rfl ?_
     refine x_skip rfl rfl ?_
     refine x_skip rfl rfl ?_
     refine x_skip rfl rfl ?_
     refine x_skip rfl rfl ?_
     refine x_skip rfl rfl ?_
     refine x_skip rfl rfl ?_
     refine x_skip rfl rfl ?_
     refine x_skip rfl rfl ?_
     refine x_pickF rfl rfl rfl rfl ?_
     refine x_assign rfl rfl rfl ?_
     refine x_nil (hK _ ?_); clear hK K
     refine go_seq (wc_ret ?_)
     exact x_end1 (Or.inr rfl) rfl rfl rfl rfl rfl rfl (by congr 2; rw [hK] at hg59; simp only [pstateB, hall, hg59, hg64, Bool.true_and, Bool.false_and])
   ·refine x_skip rfl rfl ?_
    refine x_skip rfl rfl ?_
    refine x_skip rfl rfl ?_
    refine x_pickF rfl rfl rfl rfl ?_
    refine x_move rfl rfl rfl ?_
    refine x_skip rfl rfl ?_
    refine x_skip rfl rfl ?_
    refine x_skip rfl rfl ?_
    refine x_skip rfl rfl ?_
    refine x_skip rfl rfl ?_
    refine x_skip rfl rfl ?_
    refine x_skip rfl rfl ?_
    refine x_skip rfl rfl ?_
    refine x_skip rfl rfl ?_
    refine x_skip rfl rfl ?_
    refine x_skip rfl rfl ?_
    refine x_pickF rfl rfl rfl rfl ?_
    refine x_assign rfl rfl rfl ?_
    refine x_nil (hK _ ?_); clear hK K
    refine go_seq (wc_ret ?_)
    exact x_end1 (Or.inr rfl) rfl rfl rfl rfl rfl rfl (by congr 2; rw [hK] at hg59; simp only [pstateB, hall, hg59, Bool.true_and, Bool.false_and])
end Go.Vm
set_option linter.unusedVariables false
namespace Go.Vm
open Go Go.Proofs
attribute [local irreducible] wpL
set_option maxRecDepth 20000 in
theorem auto_ok (L : Sl StateP) (root : Int) (hL : L.l.length < 2 ^ 60) (hs : ∀ s, s ∈ L.l → s.ok) : Pure En 13 [.agg ((AutoP.enc L root).map .p)] (.p (.int .i64 (autoB L.l root))) := by
 refine pure_walk [(0, .agg ((AutoP.enc L root).map .p))] Tryz.func13 rfl rfl rfl fun g hwo hwt => ?_
 show Wc En _ (Tryz.f13.body.getD .skip) [] (Sx 50 _ _ _ _ _ _)
 unfold Tryz.f13
 simp only [Option.getD_some]
 refine wc_seq (wc_reg fun K hK => ?_)
 refine x_box rfl rfl rfl rfl rfl ?_
 refine x_assign rfl rfl rfl ?_
 refine x_nil (hK _ (go_seq (wc_seq (wc_seq (wc_reg fun K hK => ?_)))))
 refine x_fa rfl rfl rfl fld24_0 rfl ?_
 refine x_ldL rfl rfl rfl isag22 rfl rfl ?_
 refine x_len rfl rfl rfl (by first | assumption | exact Rd.enc) und22 ?_
 refine x_bin rfl rfl rfl rfl rfl ?_
 refine x_moveS rfl rfl rfl (fun hg9 => ?_) (fun hg9 => ?_)
 ·have hz : L.l.length = 0 := by simp only [beq_iff_eq] at hg9; omega
  refine x_skip rfl rfl ?_
  refine x_skip rfl rfl ?_
  refine x_skip rfl rfl ?_
  refine x_skip rfl rfl ?_
  refine x_pickT rfl rfl rfl rfl ?_
  refine x_move rfl rfl rfl ?_
  refine x_skip rfl rfl ?_
  refine x_skip rfl rfl ?_
  refine x_skip rfl rfl ?_
  refine x_pickT rfl rfl rfl rfl ?_
  refine x_move rfl rfl rfl ?_
  refine x_skip rfl rfl ?_
  refine x_skip rfl rfl ?_
  refine x_skip rfl rfl ?_
  refine x_skip rfl rfl ?_
  refine x_skip rfl rfl ?_
  refine x_skip rfl rfl ?_
  refine x_pickT rfl rfl rfl rfl ?_
  refine x_move rfl rfl rfl ?_
  refine x_skip rfl rfl ?_
  refine x_skip rfl rfl ?_
  refine x_skip rfl rfl ?_
  refine x_skip rfl rfl ?_
  refine x_skip rfl rfl ?_
  refine x_skip rfl rfl ?_
  refine x_skip rfl rfl ?_
  refine x_skip rfl rfl ?_
  refine x_pickT rfl rfl rfl rfl ?_
  refine x_nil (hK _ (go_seq ?_))
  refine xc_cond true rfl (fun _ => ?_) (fun h => by cases h)
  refine wc_seq (wc_reg fun K hK => ?_)
  refine x_assign rfl rfl rfl ?_
  refine x_nil (hK _ (go_seq (wc_ret (go_seq_ret ?_))))
  exact x_end1 (Or.inr rfl) rfl rfl rfl rfl rfl rfl (ieq (by unfold autoB; rw [if_pos (by omega)]))
 ·have hz : ¬ L.l.length = 0 := by simp only [beq_eq_false_iff_ne, ne_eq] at hg9; omega
  refine x_fa rfl rfl rfl fld24_0 rfl ?_
  refine x_ldL rfl rfl rfl isag22 rfl rfl ?_
  refine x_len rfl rfl rfl (by first | assumption | exact Rd.enc) und22 ?_
  refine x_bin rfl rfl rfl rfl rfl ?_
  refine x_pickF rfl rfl rfl rfl ?_
  refine x_moveS rfl rfl rfl (fun hg15 => ?_) (fun hg15 => ?_)
  ·refine x_skip rfl rfl ?_
   refine x_skip rfl rfl ?_
   refine x_skip rfl rfl ?_
   refine x_pickT rfl rfl rfl rfl ?_
   refine x_move rfl rfl rfl ?_
   refine x_skip rfl rfl ?_
   refine x_skip rfl rfl ?_
   refine x_skip rfl rfl ?_
   refine x_skip rfl rfl ?_
   refine x_skip rfl rfl ?_
   refine x_skip rfl rfl ?_
   refine x_pickT rfl rfl rfl rfl ?_
   refine x_move rfl rfl rfl ?_
   refine x_skip rfl rfl ?_
   refine x_skip rfl rfl ?_
   refine x_skip rfl rfl ?_
   refine x_skip rfl rfl ?_
   refine x_skip rfl rfl ?_
   refine x_skip rfl rfl ?_
   refine x_skip rfl rfl ?_
   refine x_skip rfl rfl ?_
   refine x_pickT rfl rfl rfl rfl ?_
   refine x_nil (hK _ (go_seq ?_))
   refine xc_cond true rfl (fun _ => ?_) (fun h => by cases h)
   refine wc_seq (wc_reg fun K hK => ?_)
   refine x_assign rfl rfl rfl ?_
   refine x_nil (hK _ (go_seq (wc_ret (go_seq_ret ?_))))
   exact x_end1 (Or.inr rfl) rfl rfl rfl rfl rfl rfl (ieq (by unfold autoB; rw [if_pos (by simp at hg15; omega)]))
  ·refine x_fa rfl rfl rfl fld24_1 rfl ?_
   refine x_ldL rfl rfl rfl isag3 rfl rfl ?_
   refine x_bin rfl rfl rfl rfl rfl ?_
   refine x_pickF rfl rfl rfl rfl ?_
   refine x_moveS rfl rfl rfl (fun hg20 => ?_) (fun hg20 => ?_)
   ·refine x_skip rfl rfl ?_
    refine x_skip rfl rfl ?_
    refine x_skip rfl rfl ?_
    refine x_skip rfl rfl ?_
    refine x_skip rfl rfl ?_
    refine x_skip rfl rfl ?_
    refine x_pickT rfl rfl rfl rfl ?_
    refine x_move rfl rfl rfl ?_
    refine x_skip rfl rfl ?_
    refine x_skip rfl rfl ?_
    refine x_skip rfl rfl ?_
    refine x_skip rfl rfl ?_
    refine x_skip rfl rfl ?_
    refine x_skip rfl rfl ?_
    refine x_skip rfl rfl ?_
    refine x_skip rfl rfl ?_
    refine x_pickT rfl rfl rfl rfl ?_
    refine x_nil (hK _ (go_seq ?_))
    refine xc_cond true rfl (fun _ => ?_) (fun h => by cases h)
    refine wc_seq (wc_reg fun K hK => ?_)
    refine x_assign rfl rfl rfl ?_
    refine x_nil (hK _ (go_seq (wc_ret (go_seq_ret ?_))))
    exact x_end1 (Or.inr rfl) rfl rfl rfl rfl rfl rfl (ieq (by unfold autoB; rw [if_pos (by simp at hg20; omega)]))
   ·refine x_fa rfl rfl rfl fld24_1 rfl ?_
    refine x_ldL rfl rfl rfl isag3 rfl rfl ?_
    refine x_fa rfl rfl rfl fld24_0 rfl ?_
    refine x_ldL rfl rfl rfl isag22 rfl rfl ?_
    refine x_len rfl rfl rfl (by first | assumption | exact Rd.enc) und22 ?_
    refine x_bin rfl rfl rfl rfl rfl ?_
    refine x_pickF rfl rfl rfl rfl ?_
    refine x_moveS rfl rfl rfl (fun hg28 => ?_) (fun hg28 => ?_)
    ·refine x_skip rfl rfl ?_
     refine x_skip rfl rfl ?_
     refine x_skip rfl rfl ?_
     refine x_skip rfl rfl ?_
     refine x_skip rfl rfl ?_
     refine x_skip rfl rfl ?_
     refine x_skip rfl rfl ?_
     refine x_skip rfl rfl ?_
     refine x_pickT rfl rfl rfl rfl ?_
     refine x_nil (hK _ (go_seq ?_))
     refine xc_cond true rfl (fun _ => ?_) (fun h => by cases h)
     refine wc_seq (wc_reg fun K hK => ?_)
     refine x_assign rfl rfl rfl ?_
     refine x_nil (hK _ (go_seq (wc_ret (go_seq_ret ?_))))
     exact x_end1 (Or.inr rfl) rfl rfl rfl rfl rfl rfl (ieq (by unfold autoB; rw [if_pos (by simp at hg28; omega)]))
    ·have hbig : ¬(L.l.length = 0 ∨ 4096 < L.l.length ∨ root < 0 ∨ (L.l.length : Int) ≤ root) := by simp at hg15 hg20 hg28; omega
     have h0 : 0 ≤ root := by omega
     have h2 : root.toNat < L.l.length := by omega
     obtain ⟨st, e2⟩ : ∃ st, L.l[root.toNat]? = some st := ⟨_, List.getElem?_eq_getElem h2⟩
     refine x_fa rfl rfl rfl fld24_0 rfl ?_
     refine x_ldL rfl rfl rfl isag22 rfl rfl ?_
     refine x_fa rfl rfl rfl fld24_1 rfl ?_
     refine x_ldL rfl rfl rfl isag3 rfl rfl ?_
     refine x_iaI rfl rfl rfl Rd.enc rfl und22 sz34 rfl h0 e2 rfl ?_
     refine x_fa rfl rfl rfl fld34_0 rfl ?_
     refine x_ldR rfl rfl rfl isag4 rfl ?_
     refine x_not rfl rfl rfl ?_
     refine x_pickF rfl rfl rfl rfl ?_
     refine x_nil (hK _ (go_seq ?_))
     refine xc_cond _ rfl (fun hc0 => ?_) (fun hc0 => ?_)
     ·refine wc_seq (wc_reg fun K hK => ?_)
      refine x_assign rfl rfl rfl ?_
      refine x_nil (hK _ (go_seq (wc_ret (go_seq_ret ?_))))
      exact x_end1 (Or.inr rfl) rfl rfl rfl rfl rfl rfl (ieq (by unfold autoB; rw [if_neg hbig, if_neg (by rw [e2]; intro hh; have := hh.1; simp at this hc0; simp [hc0] at this)]))
     ·have hpl : (L.l[root.toNat]?.map (·.plus)).getD false = true := by rw [e2]; simpa using hc0
      refine wc_skip (go_seq (wc_seq (wc_seq (wc_reg fun K hK => ?_))))
      refine x_fa rfl rfl rfl fld24_0 rfl ?_
      refine x_ldL rfl rfl rfl isag22 rfl rfl ?_
      refine x_len rfl rfl rfl (by first | assumption | exact Rd.enc) und22 ?_
      refine x_move rfl rfl rfl ?_
      refine x_nil (hK _ (go_seq (wc_block ?_)))
      refine xc_loop [(1, _), (39, _), (40, _)] [(1, _)] (fun j : Nat => [(41, .p (.int .i64 j))]) (fun j : Nat => j ≤ L.l.length ∧ ∀ i, i < j → ∃ c, L.l[i]? = some c ∧ pstateB L.l c = true) (fun j : Nat => L.l.length - j) 0 (by repeat first | exact trivial | refine .intro rfl ?_) (by repeat first | exact trivial | refine .intro rfl ?_) ⟨Nat.zero_le _, fun i hi => by omega⟩ ?_
      rintro j R hR1 hR2 ⟨hj, hr⟩ b rb
      refine wc_seq (wc_reg fun K hK => ?_)
      refine x_bin rfl rfl rfl rfl rfl ?_
      refine x_nil (hK _ (go_seq (wc_seq ?_)))
      refine xc_cond _ rfl (fun hc1 => ?_) (fun hc1 => ?_)
      ·have hlt : j < L.l.length := by simp at hc1; omega
       obtain ⟨s, e1⟩ : ∃ s, L.l[j]? = some s := ⟨_, List.getElem?_eq_getElem hlt⟩
       have hm : s ∈ L.l := List.mem_of_getElem? e1
       refine wc_skip (go_seq (wc_seq (wc_block (wc_seq (wc_reg fun K hK => ?_)))))
       refine x_ia rfl rfl rfl (by first | assumption | exact Rd.enc) rfl und22 sz34 rfl (by assumption) rfl ?_
       refine x_ldRA rfl rfl rfl isag34 sz34 rfl ?_
       refine x_alloc rfl rfl rfl zero34 rfl ?_
       refine x_stL rfl rfl rfl sz34 rfl rfl rfl rfl ?_
       refine x_nil (hK _ (go_seq (wc_seq (wc_reg fun K hK => ?_))))
       refine x_ldLA rfl rfl rfl isag24 sz24 rfl rfl ?_
       refine x_ldLA rfl rfl rfl isag34 sz34 rfl rfl ?_
       refine x_call rfl rfl rfl (by repeat (first | exact ho_nil | refine ho_cons (by first | rfl | exact rd_ho (by assumption)) ?_)) okf37 (pstate_ok L root s hL (hs _ hm) _) ?_
       refine x_not rfl rfl rfl ?_
       refine x_nil (hK _ (go_seq ?_))
       refine xc_cond _ rfl (fun hc2 => ?_) (fun hc2 => ?_)
       ·refine wc_seq (wc_reg fun K hK => ?_)
        refine x_assign rfl rfl rfl ?_
        refine x_nil (hK _ (go_seq (wc_ret (go_blk_ret (go_seq_ret ?_)))))
        refine hR2 _ _ (by simp) ?_
        refine go_blk_ret (go_seq_ret ?_)
        exact x_end1 (Or.inr rfl) rfl rfl rfl rfl rfl rfl (ieq (by unfold autoB; have : L.l.all (pstateB L.l) = false := all_not hm (by simpa using hc2); rw [if_neg hbig, if_neg (by rw [this]; simp)]))
       ·refine wc_skip (go_blk (go_seq (wc_reg fun K hK => ?_)))
        refine x_inc rfl rfl rfl rfl (by omega) ?_
        refine x_move rfl rfl rfl ?_
        refine x_nil (hK _ ?_); clear hK K
        exact hR1 (j + 1) _ _ _ _ ⟨hlt, leadP_up (p := pstateB L.l) hr e1 (by simpa using hc2)⟩ (by omega) (by repeat first | exact trivial | refine .intro rfl ?_) (by repeat first | exact trivial | refine .intro rfl ?_)
      ·refine wc_exit ?_
       refine go_seq_exit ?_
       refine hR2 _ _ (by simp) ?_
       refine go_blk_exit (go_seq (wc_seq (wc_reg fun K hK => ?_)))
       refine x_assign rfl rfl rfl ?_
       refine x_nil (hK _ (go_seq (wc_ret ?_)))
       exact x_end1 (Or.inr rfl) rfl rfl rfl rfl rfl rfl (ieq (by unfold autoB; have : L.l.all (pstateB L.l) = true := all_lead fun i hi => hr i (by simp at hc1; omega); rw [if_neg hbig, if_pos ⟨hpl, this⟩]))
end Go.Vm
set_option linter.unusedVariables false
namespace Go.Vm
open Go Go.Proofs
structure Head.ok0 (h : Head) : Prop where
 names : h.names.l.length < 2 ^ 60
 each : ∀ s, s ∈ h.names.l → s.size < 2 ^ 60
 kids : h.kids.l.length < 2 ^ 60
structure StateP.ok0 (s : StateP) : Prop where
 heads : s.heads.l.length < 2 ^ 60
 vars : s.vars.l.length < 2 ^ 60
 each : ∀ h, h ∈ s.heads.l → h.ok0
def fewH (h : Head) : Bool := decide (h.kids.l.length ≤ 20) && (decide (h.names.l.length ≤ 20) && h.names.l.all fun s => decide (s.size ≤ 60))
def fewG (l : List Head) : Bool := l.all fewH && decide (l.length ≤ 25)
def fewS (s : StateP) : Bool := decide (s.heads.l.length ≤ 12) && (decide (s.vars.l.length ≤ 20) && fewG s.heads.l)
def fewA (L : List StateP) : Bool := L.all fewS && decide (L.length ≤ 25)
end Go.Vm
set_option linter.unusedVariables false
namespace Go.Vm
open Go Go.Proofs
attribute [local irreducible] wpL
set_option maxRecDepth 20000 in
theorem fewG_ok (L : Sl Head) (root : Int) (hl : L.l.length < 2 ^ 60) (hh : ∀ h, h ∈ L.l → h.ok0) : Pure En 15 [.agg [.p (L.enc Head.enc), .p (.int .i64 root)]] (.p (.bool (fewG L.l))) := by
 refine pure_walk [(0, .agg [.p (L.enc Head.enc), .p (.int .i64 root)])] Tryz.func15 rfl rfl rfl fun g hwo hwt => ?_
 show Wc En _ (Tryz.f15.body.getD .skip) [] (Sx 40 _ _ _ _ _ _)
 unfold Tryz.f15
 simp only [Option.getD_some]
 refine wc_seq (wc_reg fun K hK => ?_)
 refine x_box rfl rfl rfl rfl rfl ?_
 refine x_assign rfl rfl rfl ?_
 refine x_nil (hK _ (go_seq (wc_seq (wc_seq (wc_reg fun K hK => ?_)))))
 refine x_fa rfl rfl rfl fld40_0 rfl ?_
 refine x_ldL rfl rfl rfl isag32 rfl rfl ?_
 refine x_len rfl rfl rfl (by first | assumption | exact Rd.enc) und32 ?_
 refine x_move rfl rfl rfl ?_
 refine x_nil (hK _ (go_seq (wc_block ?_)))
 refine xc_loop [(1, _), (8, _), (9, _)] [(1, _)] (fun j : Nat => [(10, .p (.int .i64 j))]) (fun j : Nat => j ≤ L.l.length ∧ ∀ i, i < j → ∃ c, L.l[i]? = some c ∧ fewH c = true) (fun j : Nat => L.l.length - j) 0 (by repeat first | exact trivial | refine .intro rfl ?_) (by repeat first | exact trivial | refine .intro rfl ?_) ⟨Nat.zero_le _, fun i hi => by omega⟩ ?_
 rintro j R0 hR1_0 hR2_0 ⟨hj, hr⟩ b rb
 refine wc_seq (wc_reg fun K hK => ?_)
 refine x_bin rfl rfl rfl rfl rfl ?_
 refine x_nil (hK _ (go_seq (wc_seq ?_)))
 refine xc_cond _ rfl (fun hc0 => ?_) (fun hc0 => ?_)
 ·have hlt : j < L.l.length := by simp at hc0; omega
  obtain ⟨h, e1⟩ : ∃ h, L.l[j]? = some h := ⟨_, List.getElem?_eq_getElem hlt⟩
  have hm : h ∈ L.l := List.mem_of_getElem? e1
  have hn1 := (hh h hm).names
  refine wc_skip (go_seq (wc_seq (wc_block (wc_seq (wc_reg fun K hK => ?_)))))
  refine x_ia rfl rfl rfl (by first | assumption | exact Rd.enc) rfl und32 sz37 rfl (by assumption) rfl ?_
  refine x_ldRA rfl rfl rfl isag37 sz37 rfl ?_
  refine x_alloc rfl rfl rfl zero37 rfl ?_
  refine x_stL rfl rfl rfl sz37 rfl rfl rfl rfl ?_
  refine x_nil (hK _ (go_seq (wc_seq (wc_seq (wc_reg fun K hK => ?_)))))
  refine x_fa rfl rfl rfl fld37_2 rfl ?_
  refine x_ldL rfl rfl rfl isag27 rfl rfl ?_
  refine x_len rfl rfl rfl (by first | assumption | exact Rd.enc) und27 ?_
  refine x_bin rfl rfl rfl rfl rfl ?_
  refine x_moveS rfl rfl rfl (fun hg18 => ?_) (fun hg18 => ?_)
  ·refine x_skip rfl rfl ?_
   refine x_skip rfl rfl ?_
   refine x_skip rfl rfl ?_
   refine x_skip rfl rfl ?_
   refine x_pickT rfl rfl rfl rfl ?_
   refine x_nil (hK _ (go_seq ?_))
   refine xc_cond true rfl (fun _ => ?_) (fun h => by cases h)
   refine wc_seq (wc_reg fun K hK => ?_)
   refine x_assign rfl rfl rfl ?_
   refine x_nil (hK _ (go_seq (wc_ret (go_seq_ret (go_blk_ret (go_seq_ret ?_))))))
   refine hR2_0 _ _ (by simp) ?_
   refine go_blk_ret (go_seq_ret ?_)
   have hf : fewH h = false := by simp only [fewH]; rw [decide_eq_false (p := h.kids.l.length ≤ 20) (by simp at hg18; omega)]; rfl
   exact x_end1 (Or.inr rfl) rfl rfl rfl rfl rfl rfl (by congr 2; simp only [fewG, all_not (p := fewH) hm hf, Bool.false_and])
  ·refine x_fa rfl rfl rfl fld37_1 rfl ?_
   refine x_ldL rfl rfl rfl isag35 rfl rfl ?_
   refine x_len rfl rfl rfl (by first | assumption | exact Rd.enc) und35 ?_
   refine x_bin rfl rfl rfl rfl rfl ?_
   refine x_pickF rfl rfl rfl rfl ?_
   refine x_nil (hK _ (go_seq ?_))
   refine xc_cond _ rfl (fun hc1 => ?_) (fun hc1 => ?_)
   ·refine wc_seq (wc_reg fun K hK => ?_)
    refine x_assign rfl rfl rfl ?_
    refine x_nil (hK _ (go_seq (wc_ret (go_seq_ret (go_blk_ret (go_seq_ret ?_))))))
    refine hR2_0 _ _ (by simp) ?_
    refine go_blk_ret (go_seq_ret ?_)
    have hf : fewH h = false := by simp only [fewH]; rw [decide_eq_false (p := h.names.l.length ≤ 20) (by simp at hc1; omega), Bool.false_and, Bool.and_false]
    exact x_end1 (Or.inr rfl) rfl rfl rfl rfl rfl rfl (by congr 2; simp only [fewG, all_not (p := fewH) hm hf, Bool.false_and])
   ·have hf1 : decide (h.kids.l.length ≤ 20) = true := by simp at hg18 ⊢; omega
    have hf2 : decide (h.names.l.length ≤ 20) = true := by simp at hc1 ⊢; omega
    refine wc_skip (go_seq (wc_seq (wc_reg fun K hK => ?_)))
    refine x_fa rfl rfl rfl fld37_1 rfl ?_
    refine x_ldL rfl rfl rfl isag35 rfl rfl ?_
    refine x_len rfl rfl rfl (by first | assumption | exact Rd.enc) und35 ?_
    refine x_move rfl rfl rfl ?_
    refine x_nil (hK _ (go_seq (wc_block ?_)))
    refine xc_loop [(1, _), (8, _), (9, _), (10, _), (25, _), (26, _)] [(1, _)] (fun i : Nat => [(27, .p (.int .i64 i))]) (fun i : Nat => i ≤ h.names.l.length ∧ ∀ k, k < i → ∃ c, h.names.l[k]? = some c ∧ decide (c.size ≤ 60) = true) (fun i : Nat => h.names.l.length - i) 0 (by repeat first | exact trivial | refine .intro rfl ?_) (by repeat first | exact trivial | refine .intro rfl ?_) ⟨Nat.zero_le _, fun i hi => by omega⟩ ?_
    rintro i R1 hR1_1 hR2_1 ⟨hi, hr2⟩ b rb
    refine wc_seq (wc_reg fun K hK => ?_)
    refine x_bin rfl rfl rfl rfl rfl ?_
    refine x_nil (hK _ (go_seq (wc_seq ?_)))
    refine xc_cond _ rfl (fun hc2 => ?_) (fun hc2 => ?_)
    ·have hlt2 : i < h.names.l.length := by simp at hc2; omega
     obtain ⟨s, e2⟩ : ∃ s, h.names.l[i]? = some s := ⟨_, List.getElem?_eq_getElem hlt2⟩
     have hm2 : s ∈ h.names.l := List.mem_of_getElem? e2
     refine wc_skip (go_seq (wc_seq (wc_block (wc_seq (wc_reg fun K hK => ?_)))))
     refine x_ia rfl rfl rfl (by first | assumption | exact Rd.enc) rfl und35 sz9 rfl (by assumption) rfl ?_
     refine x_ldR rfl rfl rfl isag9 rfl ?_
     refine x_assign rfl rfl rfl ?_
     refine x_nil (hK _ (go_seq (wc_seq (wc_reg fun K hK => ?_))))
     refine x_move rfl rfl rfl ?_
     refine x_lenStr rfl rfl rfl und9 ?_
     refine x_bin rfl rfl rfl rfl rfl ?_
     refine x_nil (hK _ (go_seq ?_))
     refine xc_cond _ rfl (fun hc3 => ?_) (fun hc3 => ?_)
     ·refine wc_seq (wc_reg fun K hK => ?_)
      refine x_assign rfl rfl rfl ?_
      refine x_nil (hK _ (go_seq (wc_ret (go_blk_ret (go_seq_ret ?_)))))
      refine hR2_1 _ _ (by simp) ?_
      refine go_blk_ret (go_blk_ret (go_seq_ret ?_))
      refine hR2_0 _ _ (by simp) ?_
      refine go_blk_ret (go_seq_ret ?_)
      have hf : fewH h = false := by simp only [fewH]; rw [all_not (p := fun s : ByteArray => decide (s.size ≤ 60)) hm2 (by simp at hc3 ⊢; omega), Bool.and_false, Bool.and_false]
      exact x_end1 (Or.inr rfl) rfl rfl rfl rfl rfl rfl (by congr 2; simp only [fewG, all_not (p := fewH) hm hf, Bool.false_and])
     ·refine wc_skip (go_blk (go_seq (wc_reg fun K hK => ?_)))
      refine x_inc rfl rfl rfl rfl (by omega) ?_
      refine x_move rfl rfl rfl ?_
      refine x_nil (hK _ ?_); clear hK K
      exact hR1_1 (i + 1) _ _ _ _ ⟨hlt2, leadP_up (p := fun s : ByteArray => decide (s.size ≤ 60)) hr2 e2 (by simp at hc3 ⊢; omega)⟩ (by omega) (by repeat first | exact trivial | refine .intro rfl ?_) (by repeat first | exact trivial | refine .intro rfl ?_)
    ·have hf3 : (h.names.l.all fun s => decide (s.size ≤ 60)) = true := all_lead fun k hk => hr2 k (by simp at hc2; omega)
     refine wc_exit ?_
     refine go_seq_exit ?_
     refine hR2_1 _ _ (by simp) ?_
     refine go_blk_exit (go_blk (go_seq (wc_reg fun K hK => ?_)))
     refine x_inc rfl rfl rfl rfl (by omega) ?_
     refine x_move rfl rfl rfl ?_
     refine x_nil (hK _ ?_); clear hK K
     exact hR1_0 (j + 1) _ _ _ _ ⟨hlt, leadP_up (p := fewH) hr e1 (by simp only [fewH, hf1, hf2, hf3]; rfl)⟩ (by omega) (by repeat first | exact trivial | refine .intro rfl ?_) (by repeat first | exact trivial | refine .intro rfl ?_)
 ·refine wc_exit ?_
  refine go_seq_exit ?_
  refine hR2_0 _ _ (by simp) ?_
  refine go_blk_exit (go_seq (wc_seq (wc_reg fun K hK => ?_)))
  refine x_fa rfl rfl rfl fld40_0 rfl ?_
  refine x_ldL rfl rfl rfl isag32 rfl rfl ?_
  refine x_len rfl rfl rfl (by first | assumption | exact Rd.enc) und32 ?_
  refine x_bin rfl rfl rfl rfl rfl ?_
  refine x_assign rfl rfl rfl ?_
  refine x_nil (hK _ (go_seq (wc_ret ?_)))
  exact x_end1 (Or.inr rfl) rfl rfl rfl rfl rfl rfl (by congr 2; have e : L.l.all fewH = true := all_lead fun i hi => hr i (by simp at hc0; omega); simp only [fewG, e, Bool.true_and]; rw [Bool.eq_iff_iff]; simp; omega)
set_option maxRecDepth 20000 in
theorem fewA_ok (L : Sl StateP) (root : Int) (hl : L.l.length < 2 ^ 60) (hh : ∀ s, s ∈ L.l → s.ok0) : Pure En 10 [.agg ((AutoP.enc L root).map .p)] (.p (.bool (fewA L.l))) := by
 refine pure_walk [(0, .agg ((AutoP.enc L root).map .p))] Tryz.func10 rfl rfl rfl fun g hwo hwt => ?_
 show Wc En _ (Tryz.f10.body.getD .skip) [] (Sx 34 _ _ _ _ _ _)
 unfold Tryz.f10
 simp only [Option.getD_some]
 refine wc_seq (wc_reg fun K hK => ?_)
 refine x_box rfl rfl rfl rfl rfl ?_
 refine x_assign rfl rfl rfl ?_
 refine x_nil (hK _ (go_seq (wc_seq (wc_seq (wc_reg fun K hK => ?_)))))
 refine x_fa rfl rfl rfl fld24_0 rfl ?_
 refine x_ldL rfl rfl rfl isag22 rfl rfl ?_
 refine x_len rfl rfl rfl (by first | assumption | exact Rd.enc) und22 ?_
 refine x_move rfl rfl rfl ?_
 refine x_nil (hK _ (go_seq (wc_block ?_)))
 refine xc_loop [(1, _), (6, _), (7, _)] [(1, _)] (fun j : Nat => [(8, .p (.int .i64 j))]) (fun j : Nat => j ≤ L.l.length ∧ ∀ i, i < j → ∃ c, L.l[i]? = some c ∧ fewS c = true) (fun j : Nat => L.l.length - j) 0 (by repeat first | exact trivial | refine .intro rfl ?_) (by repeat first | exact trivial | refine .intro rfl ?_) ⟨Nat.zero_le _, fun i hi => by omega⟩ ?_
 rintro j R0 hR1_0 hR2_0 ⟨hj, hr⟩ b rb
 refine wc_seq (wc_reg fun K hK => ?_)
 refine x_bin rfl rfl rfl rfl rfl ?_
 refine x_nil (hK _ (go_seq (wc_seq ?_)))
 refine xc_cond _ rfl (fun hc0 => ?_) (fun hc0 => ?_)
 ·have hlt : j < L.l.length := by simp at hc0; omega
  obtain ⟨s, e1⟩ : ∃ s, L.l[j]? = some s := ⟨_, List.getElem?_eq_getElem hlt⟩
  have hm : s ∈ L.l := List.mem_of_getElem? e1
  refine wc_skip (go_seq (wc_seq (wc_block (wc_seq (wc_reg fun K hK => ?_)))))
  refine x_ia rfl rfl rfl (by first | assumption | exact Rd.enc) rfl und22 sz34 rfl (by assumption) rfl ?_
  refine x_ldRA rfl rfl rfl isag34 sz34 rfl ?_
  refine x_alloc rfl rfl rfl zero34 rfl ?_
  refine x_stL rfl rfl rfl sz34 rfl rfl rfl rfl ?_
  refine x_nil (hK _ (go_seq (wc_seq (wc_reg fun K hK => ?_))))
  refine x_fa rfl rfl rfl fld34_1 rfl ?_
  refine x_ldL rfl rfl rfl isag32 rfl rfl ?_
  refine x_len rfl rfl rfl (by first | assumption | exact Rd.enc) und32 ?_
  refine x_bin rfl rfl rfl rfl rfl ?_
  refine x_moveS rfl rfl rfl (fun hg16 => ?_) (fun hg16 => ?_)
  ·refine x_skip rfl rfl ?_
   refine x_skip rfl rfl ?_
   refine x_skip rfl rfl ?_
   refine x_skip rfl rfl ?_
   refine x_pickT rfl rfl rfl rfl ?_
   refine x_move rfl rfl rfl ?_
   refine x_skip rfl rfl ?_
   refine x_skip rfl rfl ?_
   refine x_skip rfl rfl ?_
   refine x_skip rfl rfl ?_
   refine x_skip rfl rfl ?_
   refine x_pickT rfl rfl rfl rfl ?_
   refine x_nil (hK _ (go_seq ?_))
   refine xc_cond true rfl (fun _ => ?_) (fun h => by cases h)
   refine wc_seq (wc_reg fun K hK => ?_)
   refine x_assign rfl rfl rfl ?_
   refine x_nil (hK _ (go_seq (wc_ret (go_blk_ret (go_seq_ret ?_)))))
   refine hR2_0 _ _ (by simp) ?_
   refine go_blk_ret (go_seq_ret ?_)
   have hf : fewS s = false := by simp only [fewS]; rw [decide_eq_false (p := s.heads.l.length ≤ 12) (by simp at hg16; omega)]; rfl
   exact x_end1 (Or.inr rfl) rfl rfl rfl rfl rfl rfl (by congr 2; simp only [fewA, all_not (p := fewS) hm hf, Bool.false_and])
  ·refine x_fa rfl rfl rfl fld34_2 rfl ?_
   refine x_ldL rfl rfl rfl isag27 rfl rfl ?_
   refine x_len rfl rfl rfl (by first | assumption | exact Rd.enc) und27 ?_
   refine x_bin rfl rfl rfl rfl rfl ?_
   refine x_pickF rfl rfl rfl rfl ?_
   refine x_moveS rfl rfl rfl (fun hg22 => ?_) (fun hg22 => ?_)
   ·refine x_skip rfl rfl ?_
    refine x_skip rfl rfl ?_
    refine x_skip rfl rfl ?_
    refine x_skip rfl rfl ?_
    refine x_skip rfl rfl ?_
    refine x_pickT rfl rfl rfl rfl ?_
    refine x_nil (hK _ (go_seq ?_))
    refine xc_cond true rfl (fun _ => ?_) (fun h => by cases h)
    refine wc_seq (wc_reg fun K hK => ?_)
    refine x_assign rfl rfl rfl ?_
    refine x_nil (hK _ (go_seq (wc_ret (go_blk_ret (go_seq_ret ?_)))))
    refine hR2_0 _ _ (by simp) ?_
    refine go_blk_ret (go_seq_ret ?_)
    have hf : fewS s = false := by simp only [fewS]; rw [decide_eq_false (p := s.vars.l.length ≤ 20) (by simp at hg22; omega), Bool.false_and, Bool.and_false]
    exact x_end1 (Or.inr rfl) rfl rfl rfl rfl rfl rfl (by congr 2; simp only [fewA, all_not (p := fewS) hm hf, Bool.false_and])
   ·refine x_fa rfl rfl rfl fld34_1 rfl ?_
    refine x_ldL rfl rfl rfl isag32 rfl rfl ?_
    refine x_buildU rfl rfl zero40 rfl pl40 rfl ?_
    refine x_call rfl rfl rfl (by repeat (first | exact ho_nil | refine ho_cons (by first | rfl | exact rd_ho (by assumption)) ?_)) okf15 (fewG_ok s.heads 0 (hh s hm).heads (hh s hm).each _) ?_
    refine x_not rfl rfl rfl ?_
    refine x_pickF rfl rfl rfl rfl ?_
    refine x_nil (hK _ (go_seq ?_))
    refine xc_cond _ rfl (fun hc1 => ?_) (fun hc1 => ?_)
    ·refine wc_seq (wc_reg fun K hK => ?_)
     refine x_assign rfl rfl rfl ?_
     refine x_nil (hK _ (go_seq (wc_ret (go_blk_ret (go_seq_ret ?_)))))
     refine hR2_0 _ _ (by simp) ?_
     refine go_blk_ret (go_seq_ret ?_)
     have hf : fewS s = false := by have e : fewG s.heads.l = false := (by simpa using hc1); simp only [fewS, e, Bool.and_false]
     exact x_end1 (Or.inr rfl) rfl rfl rfl rfl rfl rfl (by congr 2; simp only [fewA, all_not (p := fewS) hm hf, Bool.false_and])
    ·refine wc_skip (go_blk (go_seq (wc_reg fun K hK => ?_)))
     refine x_inc rfl rfl rfl rfl (by omega) ?_
     refine x_move rfl rfl rfl ?_
     refine x_nil (hK _ ?_); clear hK K
     exact hR1_0 (j + 1) _ _ _ _ ⟨hlt, leadP_up (p := fewS) hr e1 (by have a1 : decide (s.heads.l.length ≤ 12) = true := (by simp at hg16 ⊢; omega); have a2 : decide (s.vars.l.length ≤ 20) = true := (by simp at hg22 ⊢; omega); have a3 : fewG s.heads.l = true := (by simpa using hc1); simp only [fewS, a1, a2, a3]; rfl)⟩ (by omega) (by repeat first | exact trivial | refine .intro rfl ?_) (by repeat first | exact trivial | refine .intro rfl ?_)
 ·refine wc_exit ?_
  refine go_seq_exit ?_
  refine hR2_0 _ _ (by simp) ?_
  refine go_blk_exit (go_seq (wc_seq (wc_reg fun K hK => ?_)))
  refine x_fa rfl rfl rfl fld24_0 rfl ?_
  refine x_ldL rfl rfl rfl isag22 rfl rfl ?_
  refine x_len rfl rfl rfl (by first | assumption | exact Rd.enc) und22 ?_
  refine x_bin rfl rfl rfl rfl rfl ?_
  refine x_assign rfl rfl rfl ?_
  refine x_nil (hK _ (go_seq (wc_ret ?_)))
  exact x_end1 (Or.inr rfl) rfl rfl rfl rfl rfl rfl (by congr 2; have e : L.l.all fewS = true := all_lead fun i hi => hr i (by simp at hc0; omega); simp only [fewA, e, Bool.true_and]; rw [Bool.eq_iff_iff]; simp; omega)
end Go.Vm
set_option linter.unusedVariables false
namespace Go.Vm
open Go Go.Proofs
def tgB (i : Nat) (c : UInt8) : Bool := lowB c || (!(i == 0) && digB c)
def tagR (s : ByteArray) : Bool := ((List.range s.size).all fun i => tgB i (s.data.toList.getD i 0)) && !decide (s.size = 0)
theorem tagR_no {s : ByteArray} {j : Nat} (hj : j < s.size) (h : tgB j (s.data.toList.getD j 0) = false) : tagR s = false := by
 unfold tagR
 rw [show ((List.range s.size).all fun i => tgB i (s.data.toList.getD i 0)) = false from ?_, Bool.false_and]
 rw [List.all_eq_false]
 exact ⟨j, List.mem_range.2 hj, by rw [h]; simp⟩
theorem tagR_yes {s : ByteArray} (h : ∀ i, i < s.size → tgB i (s.data.toList.getD i 0) = true) : tagR s = !decide (s.size = 0) := by
 unfold tagR
 rw [show ((List.range s.size).all fun i => tgB i (s.data.toList.getD i 0)) = true from ?_, Bool.true_and]
 rw [List.all_eq_true]
 exact fun i hi => h i (List.mem_range.1 hi)
end Go.Vm
set_option linter.unusedVariables false
namespace Go.Vm
open Go Go.Proofs
attribute [local irreducible] wpL
set_option maxRecDepth 20000 in
theorem tagR_ok (s : ByteArray) (hs : s.size < 2 ^ 60) : Pure En 40 [.p (.str s)] (.p (.bool (tagR s))) := by
 refine pure_walk [(0, .p (.str s))] Tryz.func40 rfl rfl rfl fun g hwo hwt => ?_
 show Wc En _ (Tryz.f40.body.getD .skip) [] (Sx 41 _ _ _ _ _ _)
 unfold Tryz.f40
 simp only [Option.getD_some]
 refine wc_seq (wc_reg fun K hK => ?_)
 refine x_assign rfl rfl rfl ?_
 refine x_nil (hK _ (go_seq (wc_seq (wc_seq (wc_reg fun K hK => ?_)))))
 refine x_assign rfl rfl rfl ?_
 refine x_nil (hK _ (go_seq (wc_block ?_)))
 refine xc_loop [(0, _)] [] (fun j : Nat => [(3, .p (.int .i64 j))]) (fun j : Nat => j ≤ s.size ∧ ∀ i, i < j → tgB i (s.data.toList.getD i 0) = true) (fun j : Nat => s.size - j) 0 (by repeat first | exact trivial | refine .intro rfl ?_) (by repeat first | exact trivial | refine .intro rfl ?_) ⟨Nat.zero_le _, fun i hi => by omega⟩ ?_
 rintro j R0 hR1_0 hR2_0 ⟨hj, hr⟩ b rb
 refine wc_seq (wc_seq (wc_reg fun K hK => ?_))
 refine x_move rfl rfl rfl ?_
 refine x_move rfl rfl rfl ?_
 refine x_lenStr rfl rfl rfl und9 ?_
 refine x_bin rfl rfl rfl rfl rfl ?_
 refine x_nil (hK _ (go_seq ?_))
 refine xc_cond _ rfl (fun hc0 => ?_) (fun hc0 => ?_)
 ·have hlt : j < s.size := by simp at hc0; omega
  obtain ⟨e0, e1⟩ := str_at hlt
  have e3 : s.data.toList.getD j 0 = s[j] := by rw [List.getD_eq_getElem?_getD, e1]; rfl
  refine wc_skip (go_seq (wc_seq (wc_block (wc_seq (wc_reg fun K hK => ?_)))))
  refine x_move rfl rfl rfl ?_
  refine x_move rfl rfl rfl ?_
  refine x_index rfl rfl rfl rfl und9 (by omega) (by assumption) ?_
  refine x_assign rfl rfl rfl ?_
  refine x_nil (hK _ (go_seq (wc_seq ?_)))
  refine xc_regCut [(0, _), (3, _), (4, _)] [] [(5, .p (.bool (lowB s[j])))] (by repeat first | exact trivial | refine .intro rfl ?_) (by repeat first | exact trivial | refine .intro rfl ?_) (fun K hK => ?_) ?_
  ·refine x_move rfl rfl rfl ?_
   refine x_bin rfl rfl rfl rfl rfl ?_
   refine x_moveS rfl rfl rfl (fun hg17 => ?_) (fun hg17 => ?_)
   ·refine x_move rfl rfl rfl ?_
    refine x_bin rfl rfl rfl rfl rfl ?_
    refine x_pickT rfl rfl rfl rfl ?_
    refine x_moveS rfl rfl rfl (fun hg21 => ?_) (fun hg21 => ?_)
    ·refine x_skip rfl rfl ?_
     refine x_skip rfl rfl ?_
     refine x_pickT rfl rfl rfl rfl ?_
     refine x_assign rfl rfl rfl ?_
     exact x_nil (hK _ _ _ _ (by repeat (first | exact trivial | refine And.intro rfl ?_ | refine And.intro (by exact congrArg some (veq (by (try simp [lowB] at *); omega))) ?_)) (by repeat first | exact trivial | refine .intro rfl ?_))
    ·refine x_move rfl rfl rfl ?_
     refine x_bin rfl rfl rfl rfl rfl ?_
     refine x_pickF rfl rfl rfl rfl ?_
     refine x_assign rfl rfl rfl ?_
     exact x_nil (hK _ _ _ _ (by repeat (first | exact trivial | refine And.intro rfl ?_ | refine And.intro (by exact congrArg some (veq (by (try simp [lowB] at *); omega))) ?_)) (by repeat first | exact trivial | refine .intro rfl ?_))
   ·refine x_skip rfl rfl ?_
    refine x_skip rfl rfl ?_
    refine x_pickF rfl rfl rfl rfl ?_
    refine x_move rfl rfl rfl ?_
    refine x_move rfl rfl rfl ?_
    refine x_bin rfl rfl rfl rfl rfl ?_
    refine x_pickF rfl rfl rfl rfl ?_
    refine x_assign rfl rfl rfl ?_
    exact x_nil (hK _ _ _ _ (by repeat (first | exact trivial | refine And.intro rfl ?_ | refine And.intro (by exact congrArg some (veq (by (try simp [lowB] at *); omega))) ?_)) (by repeat first | exact trivial | refine .intro rfl ?_))
  intro b rb
  refine go_seq (wc_seq (wc_reg fun K hK => ?_))
  refine x_move rfl rfl rfl ?_
  refine x_not rfl rfl rfl ?_
  refine x_moveS rfl rfl rfl (fun hg27 => ?_) (fun hg27 => ?_)
  ·refine x_move rfl rfl rfl ?_
   refine x_bin rfl rfl rfl rfl rfl ?_
   refine x_moveS rfl rfl rfl (fun hg30 => ?_) (fun hg30 => ?_)
   ·refine x_skip rfl rfl ?_
    refine x_skip rfl rfl ?_
    refine x_pickT rfl rfl rfl rfl ?_
    refine x_move rfl rfl rfl ?_
    refine x_skip rfl rfl ?_
    refine x_skip rfl rfl ?_
    refine x_pickT rfl rfl rfl rfl ?_
    refine x_pickT rfl rfl rfl rfl ?_
    refine x_nil (hK _ (go_seq ?_))
    refine xc_cond true rfl (fun _ => ?_) (fun h => by cases h)
    refine wc_seq (wc_reg fun K hK => ?_)
    refine x_assign rfl rfl rfl ?_
    refine x_nil (hK _ (go_seq (wc_ret (go_blk_ret (go_seq_ret ?_)))))
    refine hR2_0 _ _ (by simp) ?_
    refine go_blk_ret (go_seq_ret ?_)
    exact x_end1 (Or.inr rfl) rfl rfl rfl rfl rfl rfl (by rw [tagR_no hlt (by rw [e3]; have a : lowB s[j] = false := (by simpa using hg27); have b : (j == 0) = true := (by simp at hg30 ⊢; omega); simp only [tgB, a, b]; rfl)])
   ·refine x_move rfl rfl rfl ?_
    refine x_bin rfl rfl rfl rfl rfl ?_
    refine x_pickF rfl rfl rfl rfl ?_
    refine x_moveS rfl rfl rfl (fun hg34 => ?_) (fun hg34 => ?_)
    ·refine x_skip rfl rfl ?_
     refine x_skip rfl rfl ?_
     refine x_pickT rfl rfl rfl rfl ?_
     refine x_pickT rfl rfl rfl rfl ?_
     refine x_nil (hK _ (go_seq ?_))
     refine xc_cond true rfl (fun _ => ?_) (fun h => by cases h)
     refine wc_seq (wc_reg fun K hK => ?_)
     refine x_assign rfl rfl rfl ?_
     refine x_nil (hK _ (go_seq (wc_ret (go_blk_ret (go_seq_ret ?_)))))
     refine hR2_0 _ _ (by simp) ?_
     refine go_blk_ret (go_seq_ret ?_)
     exact x_end1 (Or.inr rfl) rfl rfl rfl rfl rfl rfl (by rw [tagR_no hlt (by rw [e3]; have a : lowB s[j] = false := (by simpa using hg27); have b : digB s[j] = false := (by simp at hg34; simp [digB]; omega); simp only [tgB, a, b, Bool.and_false]; rfl)])
    ·refine x_move rfl rfl rfl ?_
     refine x_bin rfl rfl rfl rfl rfl ?_
     refine x_pickF rfl rfl rfl rfl ?_
     refine x_pickT rfl rfl rfl rfl ?_
     refine x_nil (hK _ (go_seq ?_))
     refine xc_cond _ rfl (fun hc1 => ?_) (fun hc1 => ?_)
     ·refine wc_seq (wc_reg fun K hK => ?_)
      refine x_assign rfl rfl rfl ?_
      refine x_nil (hK _ (go_seq (wc_ret (go_blk_ret (go_seq_ret ?_)))))
      refine hR2_0 _ _ (by simp) ?_
      refine go_blk_ret (go_seq_ret ?_)
      exact x_end1 (Or.inr rfl) rfl rfl rfl rfl rfl rfl (by rw [tagR_no hlt (by rw [e3]; have a : lowB s[j] = false := (by simpa using hg27); have b : digB s[j] = false := (by simp at hc1; simp [digB]; omega); simp only [tgB, a, b, Bool.and_false]; rfl)])
     ·refine wc_skip (go_blk (go_seq (wc_reg fun K hK => ?_)))
      refine x_move rfl rfl rfl ?_
      refine x_inc rfl rfl rfl rfl (by omega) ?_
      refine x_assign rfl rfl rfl ?_
      refine x_nil (hK _ ?_); clear hK K
      exact hR1_0 (j + 1) _ _ _ _ ⟨hlt, fun i hi => by rcases Nat.lt_succ_iff_lt_or_eq.1 hi with hi | rfl; (exact hr i hi); rw [e3]; have a : (i == 0) = false := (by simp at hg30 ⊢; omega); have b : digB s[i] = true := (by simp at hg34 hc1; simp [digB]; omega); simp only [tgB, a, b]; simp⟩ (by omega) (by repeat first | exact trivial | refine .intro rfl ?_) (by repeat first | exact trivial | refine .intro rfl ?_)
  ·refine x_skip rfl rfl ?_
   refine x_skip rfl rfl ?_
   refine x_skip rfl rfl ?_
   refine x_skip rfl rfl ?_
   refine x_skip rfl rfl ?_
   refine x_skip rfl rfl ?_
   refine x_skip rfl rfl ?_
   refine x_skip rfl rfl ?_
   refine x_skip rfl rfl ?_
   refine x_skip rfl rfl ?_
   refine x_pickF rfl rfl rfl rfl ?_
   refine x_nil (hK _ (go_seq ?_))
   refine xc_cond false rfl (fun h => by cases h) (fun _ => ?_)
   refine wc_skip (go_blk (go_seq (wc_reg fun K hK => ?_)))
   refine x_move rfl rfl rfl ?_
   refine x_inc rfl rfl rfl rfl (by omega) ?_
   refine x_assign rfl rfl rfl ?_
   refine x_nil (hK _ ?_); clear hK K
   exact hR1_0 (j + 1) _ _ _ _ ⟨hlt, fun i hi => by rcases Nat.lt_succ_iff_lt_or_eq.1 hi with hi | rfl; (exact hr i hi); rw [e3]; have a : lowB s[i] = true := (by simpa using hg27); simp only [tgB, a, Bool.true_or]⟩ (by omega) (by repeat first | exact trivial | refine .intro rfl ?_) (by repeat first | exact trivial | refine .intro rfl ?_)
 ·refine wc_exit ?_
  refine go_seq_exit ?_
  refine hR2_0 _ _ (by simp) ?_
  refine go_blk_exit (go_seq (wc_seq (wc_reg fun K hK => ?_)))
  refine x_move rfl rfl rfl ?_
  refine x_bin rfl rfl rfl rfl rfl ?_
  refine x_assign rfl rfl rfl ?_
  refine x_nil (hK _ (go_seq (wc_ret ?_)))
  exact x_end1 (Or.inr rfl) rfl rfl rfl rfl rfl rfl (by rw [tagR_yes fun i hi => hr i (by simp at hc0; omega), ← empty_iff])
end Go.Vm
set_option linter.unusedVariables false
namespace Go.Vm
open Go
section
variable {E : Env} {qt : Bool} {ops : Array Oper} {l : List Oper} {K : St → Prop}
variable {nt : Nat} {b : Nat → V} {L : List (Nat × V)} {rb : Nat → Option (Nat × List V)} {R : List (Nat × (Nat × List V))} {esc : Nat → Bool} {g : G}
variable {d : Nat} {ty : TypeId} {pos : String} {after : Array Edge} {gd : Option (Nat × Bool)}
theorem x_slS {t : TypeId} {x lo hi : Operand} {s : ByteArray} {i j : Int} (h : wX ops nt L gd = some true) (hd : Nat.blt d nt = true) (hx : evX E L x = some (.p (.str s))) (hlo : evX E L lo = some (.p (.int .i64 i))) (hhi : evX E L hi = some (.p (.int .i64 j)))
  (hu : E.P.underlying t = some .string) (h0 : 0 ≤ i) (h1 : i ≤ j) (h2 : j ≤ s.size) (k : wpL E qt ops l (Sx nt b ((d, .p (.str (s.extract i.toNat j.toNat))) :: L) rb R esc g) K) :
  wpL E qt ops (⟨some d, .slice t x (some lo) (some hi) none, ty, pos, after, gd⟩ :: l) (Sx nt b L rb R esc g) K := by
 refine wpl_slice (wX_ok h) (blt hd) (evX_ok hx) (L := some (.p (.int .i64 i))) (H := some (.p (.int .i64 j))) (by simp only [optEv]; rw [evX_ok hlo]; rfl) (by simp only [optEv]; rw [evX_ok hhi]; rfl) (v := .p (.str (s.extract i.toNat j.toNat))) ?_ (by rw [ofL_upd]; exact k)
 unfold St.slice
 have a1 : hiOf (some (.p (.int .i64 j))) s.size s.size = some j.toNat := by
  simp only [hiOf, asNat]
  rw [if_pos (by omega)]
 have a2 : loOf (some (.p (.int .i64 i))) j.toNat = some i.toNat := by
  simp only [loOf, asNat]
  rw [if_pos (by omega)]
 simp only [hu, a1, a2]
theorem x_addS {t u : TypeId} {x y : Operand} {m n : ByteArray} (h : wX ops nt L gd = some true) (hd : Nat.blt d nt = true) (hx : evX E L x = some (.p (.str m))) (hy : evX E L y = some (.p (.str n))) (h1 : m.size + n.size < 2 ^ 62)
  (k : wpL E qt ops l (Sx nt b ((d, .p (.str (m ++ n))) :: L) rb R esc g) K) : wpL E qt ops (⟨some d, .binOp .add t x y u, ty, pos, after, gd⟩ :: l) (Sx nt b L rb R esc g) K := by
 refine x_bin h hd hx hy (z := .str (m ++ n)) ?_ k
 have e : IntKind.i64.max = 9223372036854775807 := rfl
 simp only [bin, sbin, e]
 rw [if_neg (by omega)]
end
end Go.Vm
set_option linter.unusedVariables false
namespace Go.Vm
open Go Go.Proofs
def wordsT : ByteArray := ⟨#[32, 102, 117, 110, 32, 108, 101, 116, 32, 114, 101, 99, 32, 105, 110, 32, 105, 102, 32, 116, 104, 101, 110, 32, 101, 108, 115, 101, 32, 99, 97, 115, 101, 32, 111, 102, 32, 101, 110, 100, 32, 116, 114, 117, 101, 32, 102, 97, 108, 115, 101, 32, 105, 110, 116, 32, 98, 111, 111, 108, 32, 115, 116, 114, 32, 102, 108, 111, 97, 116, 32, 100, 121, 110, 32, 97, 110, 121, 32, 110, 111, 110, 101, 32, 116, 121, 112, 101, 32]⟩
def sp : ByteArray := ⟨#[32]⟩
def azB (c : UInt8) : Bool := !(decide (c.toNat < 97)) && !(decide (c.toNat > 122))
def atB (s : ByteArray) (i : Nat) : Bool := (wordsT.extract i (i + s.size + 2)).toList == (sp ++ s ++ sp).toList
def isWordR (s : ByteArray) : Bool := !decide (s.size = 0) && (((List.range s.size).all fun i => azB (s.data.toList.getD i 0)) && (List.range (88 - s.size)).any (atB s))
theorem wordsT_size : wordsT.size = 89 := by decide
theorem isWordR_0 {s : ByteArray} (h : s.size = 0) : isWordR s = false := by simp [isWordR, h]
theorem isWordR_no {s : ByteArray} {j : Nat} (hj : j < s.size) (h : azB (s.data.toList.getD j 0) = false) : isWordR s = false := by
 unfold isWordR
 rw [show ((List.range s.size).all fun i => azB (s.data.toList.getD i 0)) = false from ?_, Bool.false_and, Bool.and_false]
 rw [List.all_eq_false]
 exact ⟨j, List.mem_range.2 hj, by rw [h]; simp⟩
theorem isWordR_az {s : ByteArray} (h0 : s.size ≠ 0) (h : ∀ i, i < s.size → azB (s.data.toList.getD i 0) = true) : isWordR s = (List.range (88 - s.size)).any (atB s) := by
 unfold isWordR
 rw [show ((List.range s.size).all fun i => azB (s.data.toList.getD i 0)) = true from ?_, decide_eq_false h0]
 ·rfl
 ·rw [List.all_eq_true]
  exact fun i hi => h i (List.mem_range.1 hi)
theorem any_yes {n j : Nat} {p : Nat → Bool} (hj : j < n) (h : p j = true) : (List.range n).any p = true := by
 rw [List.any_eq_true]; exact ⟨j, List.mem_range.2 hj, h⟩
theorem any_no {n : Nat} {p : Nat → Bool} (h : ∀ j, j < n → p j = false) : (List.range n).any p = false := by
 rw [List.any_eq_false]; intro x hx; rw [h x (List.mem_range.1 hx)]; simp
end Go.Vm
set_option linter.unusedVariables false
namespace Go.Vm
open Go Go.Proofs
attribute [local irreducible] wpL
set_option maxRecDepth 20000 in
theorem isWordR_ok (s : ByteArray) (hs : s.size < 2 ^ 60) : Pure En 66 [.p (.str s)] (.p (.bool (isWordR s))) := by
 refine pure_walk [(0, .p (.str s))] Tryz.func66 rfl rfl rfl fun g hwo hwt => ?_
 show Wc En _ (Tryz.f66.body.getD .skip) [] (Sx 42 _ _ _ _ _ _)
 unfold Tryz.f66
 simp only [Option.getD_some]
 refine wc_seq (wc_reg fun K hK => ?_)
 refine x_assign rfl rfl rfl ?_
 refine x_nil (hK _ ?_); clear hK K
 refine go_seq (wc_seq (wc_seq (wc_reg fun K hK => ?_)))
 refine x_move rfl rfl rfl ?_
 refine x_bin rfl rfl rfl rfl rfl ?_
 refine x_nil (hK _ ?_); clear hK K
 refine go_seq ?_
 refine xc_cond _ rfl (fun hc0 => ?_) (fun hc0 => ?_)
 ·have hz : s.size = 0 := by rw [empty_iff] at hc0; simpa using hc0
  refine wc_seq (wc_reg fun K hK => ?_)
  refine x_assign rfl rfl rfl ?_
  refine x_nil (hK _ ?_); clear hK K
  refine go_seq (wc_ret (go_seq_ret ?_))
  exact x_end1 (Or.inr rfl) rfl rfl rfl rfl rfl rfl (by rw [isWordR_0 hz])
 ·have hz : ¬ s.size = 0 := by rw [empty_iff] at hc0; simpa using hc0
  refine wc_skip (go_seq (wc_seq (wc_seq (wc_reg fun K hK => ?_))))
  refine x_assign rfl rfl rfl ?_
  refine x_nil (hK _ ?_); clear hK K
  refine go_seq (wc_block ?_)
  refine xc_loop [(0, _)] [] (fun j : Nat => [(3, .p (.int .i64 j))]) (fun j : Nat => j ≤ s.size ∧ ∀ i, i < j → azB (s.data.toList.getD i 0) = true) (fun j : Nat => s.size - j) 0 (by repeat first | exact trivial | refine .intro rfl ?_) (by repeat first | exact trivial | refine .intro rfl ?_) ⟨Nat.zero_le _, fun i hi => by omega⟩ ?_
  rintro j R0 hR1_0 hR2_0 ⟨hj, hr⟩ b rb
  refine wc_seq (wc_seq (wc_reg fun K hK => ?_))
  refine x_move rfl rfl rfl ?_
  refine x_move rfl rfl rfl ?_
  refine x_lenStr rfl rfl rfl und9 ?_
  refine x_bin rfl rfl rfl rfl rfl ?_
  refine x_nil (hK _ ?_); clear hK K
  refine go_seq ?_
  refine xc_cond _ rfl (fun hc1 => ?_) (fun hc1 => ?_)
  ·have hlt : j < s.size := by simp at hc1; omega
   obtain ⟨e0, e1⟩ := str_at hlt
   have e3 : s.data.toList.getD j 0 = s[j] := by rw [List.getD_eq_getElem?_getD, e1]; rfl
   refine wc_skip (go_seq (wc_seq (wc_block (wc_seq (wc_reg fun K hK => ?_)))))
   refine x_move rfl rfl rfl ?_
   refine x_move rfl rfl rfl ?_
   refine x_index rfl rfl rfl rfl und9 (by omega) (by assumption) ?_
   refine x_bin rfl rfl rfl rfl rfl ?_
   refine x_moveS rfl rfl rfl (fun hg17 => ?_) (fun hg17 => ?_)
   ·refine x_skip rfl rfl ?_
    refine x_skip rfl rfl ?_
    refine x_skip rfl rfl ?_
    refine x_skip rfl rfl ?_
    refine x_pickT rfl rfl rfl rfl ?_
    refine x_nil (hK _ ?_); clear hK K
    refine go_seq ?_
    refine xc_cond true rfl (fun _ => ?_) (fun h => by cases h)
    refine wc_seq (wc_reg fun K hK => ?_)
    refine x_assign rfl rfl rfl ?_
    refine x_nil (hK _ ?_); clear hK K
    refine go_seq (wc_ret (go_blk_ret (go_seq_ret ?_)))
    refine hR2_0 _ _ (by simp) ?_
    refine go_blk_ret (go_seq_ret ?_)
    exact x_end1 (Or.inr rfl) rfl rfl rfl rfl rfl rfl (by rw [isWordR_no hlt (by rw [e3]; simp at hg17; simp only [azB]; rw [decide_eq_true (by omega)]; rfl)])
   ·refine x_move rfl rfl rfl ?_
    refine x_move rfl rfl rfl ?_
    refine x_index rfl rfl rfl rfl und9 (by omega) (by assumption) ?_
    refine x_bin rfl rfl rfl rfl rfl ?_
    refine x_pickF rfl rfl rfl rfl ?_
    refine x_nil (hK _ ?_); clear hK K
    refine go_seq ?_
    refine xc_cond _ rfl (fun hc2 => ?_) (fun hc2 => ?_)
    ·refine wc_seq (wc_reg fun K hK => ?_)
     refine x_assign rfl rfl rfl ?_
     refine x_nil (hK _ ?_); clear hK K
     refine go_seq (wc_ret (go_blk_ret (go_seq_ret ?_)))
     refine hR2_0 _ _ (by simp) ?_
     refine go_blk_ret (go_seq_ret ?_)
     exact x_end1 (Or.inr rfl) rfl rfl rfl rfl rfl rfl (by rw [isWordR_no hlt (by rw [e3]; simp at hc2; simp only [azB]; rw [decide_eq_true (p := (s[j]).toNat > 122) (by omega)]; simp)])
    ·refine wc_skip (go_blk (go_seq (wc_reg fun K hK => ?_)))
     refine x_move rfl rfl rfl ?_
     refine x_inc rfl rfl rfl rfl (by omega) ?_
     refine x_assign rfl rfl rfl ?_
     refine x_nil (hK _ ?_); clear hK K
     exact hR1_0 (j + 1) _ _ _ _ ⟨hlt, fun i hi => by rcases Nat.lt_succ_iff_lt_or_eq.1 hi with hi | rfl; (exact hr i hi); rw [e3]; simp at hg17 hc2; simp only [azB]; rw [decide_eq_false (by omega), decide_eq_false (by omega)]; rfl⟩ (by omega) (by repeat first | exact trivial | refine .intro rfl ?_) (by repeat first | exact trivial | refine .intro rfl ?_)
  ·have hw := isWordR_az hz fun i hi => hr i (by simp at hc1; omega)
   refine wc_exit ?_
   refine go_seq_exit ?_
   refine hR2_0 _ _ (by simp) ?_
   refine go_blk_exit (go_seq (wc_seq (wc_seq (wc_reg fun K hK => ?_))))
   refine x_assign rfl rfl rfl ?_
   refine x_nil (hK _ ?_); clear hK K
   refine go_seq (wc_block ?_)
   refine xc_loop [(0, _)] [] (fun k : Nat => [(4, .p (.int .i64 k))]) (fun k : Nat => k ≤ 88 ∧ ∀ i, i < k → atB s i = false) (fun k : Nat => 88 - k) 0 (by repeat first | exact trivial | refine .intro rfl ?_) (by repeat first | exact trivial | refine .intro rfl ?_) ⟨by omega, fun i hi => by omega⟩ ?_
   rintro k R1 hR1_1 hR2_1 ⟨hk, hr2⟩ b rb
   refine wc_seq (wc_seq (wc_reg fun K hK => ?_))
   refine x_move rfl rfl rfl ?_
   refine x_move rfl rfl rfl ?_
   refine x_lenStr rfl rfl rfl und9 ?_
   refine x_add rfl rfl rfl rfl (by omega) (by omega) ?_
   refine x_add rfl rfl rfl rfl (by omega) (by omega) ?_
   refine x_bin rfl rfl rfl rfl rfl ?_
   refine x_nil (hK _ ?_); clear hK K
   refine go_seq ?_
   refine xc_cond _ rfl (fun hc3 => ?_) (fun hc3 => ?_)
   ·have hk2 : k + s.size + 2 ≤ 89 := by simp at hc3; omega
    refine wc_skip (go_seq (wc_seq (wc_block (wc_seq (wc_reg fun K hK => ?_)))))
    refine x_move rfl rfl rfl ?_
    refine x_move rfl rfl rfl ?_
    refine x_move rfl rfl rfl ?_
    refine x_lenStr rfl rfl rfl und9 ?_
    refine x_add rfl rfl rfl rfl (by omega) (by omega) ?_
    refine x_add rfl rfl rfl rfl (by omega) (by omega) ?_
    refine x_slS rfl rfl rfl rfl rfl und9 (by omega) (by omega) (by show _ ≤ ((wordsT.size : Nat) : Int); rw [wordsT_size]; omega) ?_
    refine x_move rfl rfl rfl ?_
    refine x_addS rfl rfl rfl rfl (by show 1 + s.size < _; omega) ?_
    refine x_addS rfl rfl rfl rfl (by rw [ByteArray.size_append]; show 1 + s.size + 1 < _; omega) ?_
    refine x_bin rfl rfl rfl rfl rfl ?_
    refine x_nil (hK _ ?_); clear hK K
    refine go_seq ?_
    refine xc_cond _ rfl (fun hc4 => ?_) (fun hc4 => ?_)
    ·have ha : atB s k = true := by rw [← hc4]; rfl
     refine wc_seq (wc_reg fun K hK => ?_)
     refine x_assign rfl rfl rfl ?_
     refine x_nil (hK _ ?_); clear hK K
     refine go_seq (wc_ret (go_blk_ret (go_seq_ret ?_)))
     refine hR2_1 _ _ (by simp) ?_
     refine go_blk_ret (go_seq_ret ?_)
     exact x_end1 (Or.inr rfl) rfl rfl rfl rfl rfl rfl (by rw [hw, any_yes (by omega) ha])
    ·refine wc_skip (go_blk (go_seq (wc_reg fun K hK => ?_)))
     refine x_move rfl rfl rfl ?_
     refine x_inc rfl rfl rfl rfl (by omega) ?_
     refine x_assign rfl rfl rfl ?_
     refine x_nil (hK _ ?_); clear hK K
     exact hR1_1 (k + 1) _ _ _ _ ⟨by omega, fun i hi => by rcases Nat.lt_succ_iff_lt_or_eq.1 hi with hi | rfl; (exact hr2 i hi); rw [← hc4]; rfl⟩ (by omega) (by repeat first | exact trivial | refine .intro rfl ?_) (by repeat first | exact trivial | refine .intro rfl ?_)
   ·refine wc_exit ?_
    refine go_seq_exit ?_
    refine hR2_1 _ _ (by simp) ?_
    refine go_blk_exit (go_seq (wc_seq (wc_reg fun K hK => ?_)))
    refine x_assign rfl rfl rfl ?_
    refine x_nil (hK _ ?_); clear hK K
    refine go_seq (wc_ret ?_)
    exact x_end1 (Or.inr rfl) rfl rfl rfl rfl rfl rfl (by rw [hw, any_no fun i hi => hr2 i (by simp at hc3; omega)])
set_option maxRecDepth 20000 in
theorem nameR_ok (s : ByteArray) (hs : s.size < 2 ^ 60) : Pure En 39 [.p (.str s)] (.p (.bool (tagR s && !isWordR s))) := by
 refine pure_walk [(0, .p (.str s))] Tryz.func39 rfl rfl rfl fun g hwo hwt => ?_
 show Wc En _ (Tryz.f39.body.getD .skip) [] (Sx 10 _ _ _ _ _ _)
 unfold Tryz.f39
 simp only [Option.getD_some]
 refine wc_seq (wc_reg fun K hK => ?_)
 refine x_assign rfl rfl rfl ?_
 refine x_nil (hK _ ?_); clear hK K
 refine go_seq (wc_seq (wc_reg fun K hK => ?_))
 refine x_move rfl rfl rfl ?_
 refine x_call rfl rfl rfl (by repeat (first | exact ho_nil | refine ho_cons (by first | rfl | exact rd_ho (by assumption)) ?_)) okf40 (tagR_ok s hs _) ?_
 refine x_moveS rfl rfl rfl (fun hg5 => ?_) (fun hg5 => ?_)
 ·refine x_move rfl rfl rfl ?_
  refine x_call rfl rfl rfl (by repeat (first | exact ho_nil | refine ho_cons (by first | rfl | exact rd_ho (by assumption)) ?_)) okf66 (isWordR_ok s hs _) ?_
  refine x_not rfl rfl rfl ?_
  refine x_pickT rfl rfl rfl rfl ?_
  refine x_assign rfl rfl rfl ?_
  refine x_nil (hK _ ?_); clear hK K
  refine go_seq (wc_ret ?_)
  exact x_end1 (Or.inr rfl) rfl rfl rfl rfl rfl rfl (by congr 2; simp_all)
 ·refine x_skip rfl rfl ?_
  refine x_skip rfl rfl ?_
  refine x_skip rfl rfl ?_
  refine x_pickF rfl rfl rfl rfl ?_
  refine x_assign rfl rfl rfl ?_
  refine x_nil (hK _ ?_); clear hK K
  refine go_seq (wc_ret ?_)
  exact x_end1 (Or.inr rfl) rfl rfl rfl rfl rfl rfl (by congr 2; simp_all)
end Go.Vm
set_option linter.unusedVariables false
namespace Go.Vm
open Go Go.Proofs
def kOkB (n : Int) (nm i : Nat) (k : Int) : Bool := inR n k && !(decide (0 < nm) && decide (nm ≤ i))
def nmLt (l : List ByteArray) (j : Nat) : Bool := j == 0 || strLt (l.getD (j - 1) default) (l.getD j default)
def nmBad (kind : Int) (s : ByteArray) : Bool := (kind == 8 && !(tagR s && !isWordR s)) || (kind == 9 && !tagR s)
def nmOkB (kind : Int) (l : List ByteArray) (j : Nat) : Bool := nmLt l j && !nmBad kind (l.getD j default)
def kK (h : Head) : Int := if h.kind == 7 then 2 else if h.kind == 8 || h.kind == 9 then h.names.l.length else 0
def kN (h : Head) : Int := if h.kind == 7 then 0 else if h.kind == 8 || h.kind == 9 then h.names.l.length else 0
def kindB (h : Head) : Bool := h.kind == 7 || (h.kind == 8 || h.kind == 9) || !(decide (h.kind < 0) || decide (h.kind > 6))
def shpT (h : Head) : Bool := ((h.kids.l.length : Int) == kK h) && (((h.names.l.length : Int) == kN h) && !(h.op && !(h.kind == 9)))
def rightH (n : Int) (h : Head) : Bool :=
 ((List.range h.kids.l.length).all fun i => kOkB n h.names.l.length i (h.kids.l.getD i 0)) && (((List.range h.names.l.length).all (nmOkB h.kind h.names.l)) && (kindB h && shpT h))
def rightG (l : List Head) (root : Int) : Bool := !(decide (l.length = 0) || (decide (4096 < l.length) || (decide (root < 0) || decide ((l.length : Int) ≤ root)))) && l.all (rightH l.length)
theorem rng_no {n j : Nat} {p : Nat → Bool} (hj : j < n) (h : p j = false) : (List.range n).all p = false := by
 rw [List.all_eq_false]; exact ⟨j, List.mem_range.2 hj, by rw [h]; simp⟩
theorem rng_yes {n : Nat} {p : Nat → Bool} (h : ∀ j, j < n → p j = true) : (List.range n).all p = true := by
 rw [List.all_eq_true]; exact fun i hi => h i (List.mem_range.1 hi)
theorem rightG_no {l : List Head} {root : Int} {h : Head} (hm : h ∈ l) (hf : rightH l.length h = false) : rightG l root = false := by
 unfold rightG; rw [all_not hm hf, Bool.and_false]
end Go.Vm
