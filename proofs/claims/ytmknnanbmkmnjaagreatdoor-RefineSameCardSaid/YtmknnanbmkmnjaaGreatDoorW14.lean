/- Part 14 of the texts that the claim leans on: a judgement on the program over plain values, its soundness, and contracts of functions. -/
import Derived.Test.YtmknnanbmkmnjaaGreatDoorW13
set_option linter.unusedVariables false
set_option linter.unusedSimpArgs false
set_option linter.unusedVariables false
namespace Go.Vm
open Go Go.Proofs
attribute [local irreducible] wpL
set_option maxRecDepth 20000 in
theorem rightG_ok (L : Sl Head) (root : Int) (hl : L.l.length < 2 ^ 60) (hh : ∀ h, h ∈ L.l → h.ok) : Pure En 17 [.agg [.p (L.enc Head.enc), .p (.int .i64 root)]] (.p (.bool (rightG L.l root))) := by
 refine pure_walk [(0, .agg [.p (L.enc Head.enc), .p (.int .i64 root)])] Tryz.func17 rfl rfl rfl fun g hwo hwt => ?_
 show Wc En _ (Tryz.f17.body.getD .skip) [] (Sx 170 _ _ _ _ _ _)
 unfold Tryz.f17
 simp only [Option.getD_some]
 refine wc_seq (wc_reg fun K hK => ?_)
 refine x_box rfl rfl rfl rfl rfl ?_
 refine x_assign rfl rfl rfl ?_
 refine x_nil (hK _ ?_); clear hK K
 refine go_seq (wc_seq (wc_seq (wc_reg fun K hK => ?_)))
 refine x_fa rfl rfl rfl fld40_0 rfl ?_
 refine x_ldL rfl rfl rfl isag32 rfl rfl ?_
 refine x_len rfl rfl rfl (by first | assumption | exact Rd.enc) und32 ?_
 refine x_bin rfl rfl rfl rfl rfl ?_
 refine x_moveS rfl rfl rfl (fun hg14 => ?_) (fun hg14 => ?_)
 ·refine x_skip rfl rfl ?_
  refine x_skip rfl rfl ?_
  refine x_skip rfl rfl ?_
  refine x_skip rfl rfl ?_
  refine x_pickT rfl rfl rfl rfl ?_
  refine x_move rfl rfl rfl ?_
  refine x_skip rfl rfl ?_
  refine x_skip rfl rfl ?_
  refine x_skip rfl rfl ?_
  refine x_pickT rfl rfl rfl rfl ?_
  refine x_move rfl rfl rfl ?_
  refine x_skip rfl rfl ?_
  refine x_skip rfl rfl ?_
  refine x_skip rfl rfl ?_
  refine x_skip rfl rfl ?_
  refine x_skip rfl rfl ?_
  refine x_skip rfl rfl ?_
  refine x_pickT rfl rfl rfl rfl ?_
  refine x_nil (hK _ ?_); clear hK K
  refine go_seq ?_
  refine xc_cond true rfl (fun _ => ?_) (fun h => by cases h)
  refine wc_seq (wc_reg fun K hK => ?_)
  refine x_assign rfl rfl rfl ?_
  refine x_nil (hK _ ?_); clear hK K
  refine go_seq (wc_ret (go_seq_ret ?_))
  exact x_end1 (Or.inr rfl) rfl rfl rfl rfl rfl rfl (by congr 2; unfold rightG; rw [show decide (L.l.length = 0) = true by simp only [beq_iff_eq] at hg14; simp; simpa using hg14]; rfl)
 ·have hz : ¬ L.l.length = 0 := by simp only [beq_eq_false_iff_ne, ne_eq] at hg14; omega
  refine x_fa rfl rfl rfl fld40_0 rfl ?_
  refine x_ldL rfl rfl rfl isag32 rfl rfl ?_
  refine x_len rfl rfl rfl (by first | assumption | exact Rd.enc) und32 ?_
  refine x_bin rfl rfl rfl rfl rfl ?_
  refine x_pickF rfl rfl rfl rfl ?_
  refine x_moveS rfl rfl rfl (fun hg20 => ?_) (fun hg20 => ?_)
  ·refine x_skip rfl rfl ?_
   refine x_skip rfl rfl ?_
   refine x_skip rfl rfl ?_
   refine x_pickT rfl rfl rfl rfl ?_
   refine x_move rfl rfl rfl ?_
   refine x_skip rfl rfl ?_
   refine x_skip rfl rfl ?_
   refine x_skip rfl rfl ?_
   refine x_skip rfl rfl ?_
   refine x_skip rfl rfl ?_
   refine x_skip rfl rfl ?_
   refine x_pickT rfl rfl rfl rfl ?_
   refine x_nil (hK _ ?_); clear hK K
   refine go_seq ?_
   refine xc_cond true rfl (fun _ => ?_) (fun h => by cases h)
   refine wc_seq (wc_reg fun K hK => ?_)
   refine x_assign rfl rfl rfl ?_
   refine x_nil (hK _ ?_); clear hK K
   refine go_seq (wc_ret (go_seq_ret ?_))
   exact x_end1 (Or.inr rfl) rfl rfl rfl rfl rfl rfl (by congr 2; unfold rightG; rw [show decide (4096 < L.l.length) = true by simp at hg20; simp; omega]; simp)
  ·refine x_fa rfl rfl rfl fld40_1 rfl ?_
   refine x_ldL rfl rfl rfl isag3 rfl rfl ?_
   refine x_bin rfl rfl rfl rfl rfl ?_
   refine x_pickF rfl rfl rfl rfl ?_
   refine x_moveS rfl rfl rfl (fun hg25 => ?_) (fun hg25 => ?_)
   ·refine x_skip rfl rfl ?_
    refine x_skip rfl rfl ?_
    refine x_skip rfl rfl ?_
    refine x_skip rfl rfl ?_
    refine x_skip rfl rfl ?_
    refine x_skip rfl rfl ?_
    refine x_pickT rfl rfl rfl rfl ?_
    refine x_nil (hK _ ?_); clear hK K
    refine go_seq ?_
    refine xc_cond true rfl (fun _ => ?_) (fun h => by cases h)
    refine wc_seq (wc_reg fun K hK => ?_)
    refine x_assign rfl rfl rfl ?_
    refine x_nil (hK _ ?_); clear hK K
    refine go_seq (wc_ret (go_seq_ret ?_))
    exact x_end1 (Or.inr rfl) rfl rfl rfl rfl rfl rfl (by congr 2; unfold rightG; rw [show decide (root < 0) = true by simpa using hg25]; simp)
   ·refine x_fa rfl rfl rfl fld40_1 rfl ?_
    refine x_ldL rfl rfl rfl isag3 rfl rfl ?_
    refine x_fa rfl rfl rfl fld40_0 rfl ?_
    refine x_ldL rfl rfl rfl isag32 rfl rfl ?_
    refine x_len rfl rfl rfl (by first | assumption | exact Rd.enc) und32 ?_
    refine x_bin rfl rfl rfl rfl rfl ?_
    refine x_pickF rfl rfl rfl rfl ?_
    refine x_nil (hK _ ?_); clear hK K
    refine go_seq ?_
    refine xc_cond _ rfl (fun hc0 => ?_) (fun hc0 => ?_)
    ·refine wc_seq (wc_reg fun K hK => ?_)
     refine x_assign rfl rfl rfl ?_
     refine x_nil (hK _ ?_); clear hK K
     refine go_seq (wc_ret (go_seq_ret ?_))
     exact x_end1 (Or.inr rfl) rfl rfl rfl rfl rfl rfl (by congr 2; unfold rightG; rw [show decide ((L.l.length : Int) ≤ root) = true by simpa using hc0]; simp)
    ·refine wc_skip (go_seq (wc_seq (wc_seq (wc_reg fun K hK => ?_))))
     refine x_fa rfl rfl rfl fld40_0 rfl ?_
     refine x_ldL rfl rfl rfl isag32 rfl rfl ?_
     refine x_len rfl rfl rfl (by first | assumption | exact Rd.enc) und32 ?_
     refine x_move rfl rfl rfl ?_
     refine x_nil (hK _ ?_); clear hK K
     refine go_seq (wc_block ?_)
     refine xc_loop [(1, _), (34, _), (35, _)] [(1, _)] (fun j : Nat => [(36, .p (.int .i64 j))]) (fun j : Nat => j ≤ L.l.length ∧ ∀ i, i < j → ∃ c, L.l[i]? = some c ∧ rightH L.l.length c = true) (fun j : Nat => L.l.length - j) 0 (by repeat first | exact trivial | refine .intro rfl ?_) (by repeat first | exact trivial | refine .intro rfl ?_) ⟨Nat.zero_le _, fun i hi => by omega⟩ ?_
     rintro j R0 hR1_0 hR2_0 ⟨hj, hr⟩ b rb
     refine wc_seq (wc_reg fun K hK => ?_)
     refine x_bin rfl rfl rfl rfl rfl ?_
     refine x_nil (hK _ ?_); clear hK K
     refine go_seq (wc_seq ?_)
     refine xc_cond _ rfl (fun hc1 => ?_) (fun hc1 => ?_)
     ·have hlt : j < L.l.length := by simp at hc1; omega
      obtain ⟨h, e1⟩ : ∃ h, L.l[j]? = some h := ⟨_, List.getElem?_eq_getElem hlt⟩
      have hm : h ∈ L.l := List.mem_of_getElem? e1
      have hk1 := (hh h hm).kids
      have hk2 := (hh h hm).names
      refine wc_skip (go_seq (wc_seq (wc_block (wc_seq (wc_reg fun K hK => ?_)))))
      refine x_ia rfl rfl rfl (by first | assumption | exact Rd.enc) rfl und32 sz37 rfl (by assumption) rfl ?_
      refine x_ldRA rfl rfl rfl isag37 sz37 rfl ?_
      refine x_alloc rfl rfl rfl zero37 rfl ?_
      refine x_stL rfl rfl rfl sz37 rfl rfl rfl rfl ?_
      refine x_nil (hK _ ?_); clear hK K
      refine go_seq (wc_seq (wc_seq (wc_reg fun K hK => ?_)))
      refine x_fa rfl rfl rfl fld37_2 rfl ?_
      refine x_ldL rfl rfl rfl isag27 rfl rfl ?_
      refine x_len rfl rfl rfl (by first | assumption | exact Rd.enc) und27 ?_
      refine x_move rfl rfl rfl ?_
      refine x_nil (hK _ ?_); clear hK K
      refine go_seq (wc_block ?_)
      refine xc_loop [(1, _), (4, _), (34, _), (35, _), (36, _), (41, _), (42, _)] [(1, _), (4, _)] (fun i : Nat => [(43, .p (.int .i64 i))]) (fun i : Nat => i ≤ h.kids.l.length ∧ ∀ k, k < i → kOkB L.l.length h.names.l.length k (h.kids.l.getD k 0) = true) (fun i : Nat => h.kids.l.length - i) 0 (by repeat first | exact trivial | refine .intro rfl ?_) (by repeat first | exact trivial | refine .intro rfl ?_) ⟨Nat.zero_le _, fun i hi => by omega⟩ ?_
      rintro i R1 hR1_1 hR2_1 ⟨hi, hr2⟩ b rb
      refine wc_seq (wc_reg fun K hK => ?_)
      refine x_bin rfl rfl rfl rfl rfl ?_
      refine x_nil (hK _ ?_); clear hK K
      refine go_seq (wc_seq ?_)
      refine xc_cond _ rfl (fun hc2 => ?_) (fun hc2 => ?_)
      ·have hlt2 : i < h.kids.l.length := by simp at hc2; omega
       obtain ⟨k, e2⟩ : ∃ k, h.kids.l[i]? = some k := ⟨_, List.getElem?_eq_getElem hlt2⟩
       have e3 : h.kids.l.getD i 0 = k := by rw [List.getD_eq_getElem?_getD, e2]; rfl
       refine wc_skip (go_seq (wc_seq (wc_block (wc_seq (wc_reg fun K hK => ?_)))))
       refine x_move rfl rfl rfl ?_
       refine x_ia rfl rfl rfl (by first | assumption | exact Rd.enc) rfl und27 sz3 rfl (by assumption) rfl ?_
       refine x_ldR rfl rfl rfl isag3 rfl ?_
       refine x_assign rfl rfl rfl ?_
       refine x_assign rfl rfl rfl ?_
       refine x_nil (hK _ ?_); clear hK K
       refine go_seq (wc_seq ?_)
       refine xc_regCut [(1, _), (4, _), (34, _), (35, _), (36, _), (41, _), (42, _), (43, _)] [(1, _), (4, _)] [(69, .p (.bool (!kOkB L.l.length h.names.l.length i k)))] (by repeat first | exact trivial | refine .intro rfl ?_) (by repeat first | exact trivial | refine .intro rfl ?_) (fun K hK => ?_) ?_
       ·refine x_move rfl rfl rfl ?_
        refine x_bin rfl rfl rfl rfl rfl ?_
        refine x_moveS rfl rfl rfl (fun hg50 => ?_) (fun hg50 => ?_)
        ·refine x_skip rfl rfl ?_
         refine x_skip rfl rfl ?_
         refine x_skip rfl rfl ?_
         refine x_skip rfl rfl ?_
         refine x_skip rfl rfl ?_
         refine x_pickT rfl rfl rfl rfl ?_
         refine x_move rfl rfl rfl ?_
         refine x_skip rfl rfl ?_
         refine x_skip rfl rfl ?_
         refine x_skip rfl rfl ?_
         refine x_skip rfl rfl ?_
         refine x_skip rfl rfl ?_
         refine x_skip rfl rfl ?_
         refine x_skip rfl rfl ?_
         refine x_skip rfl rfl ?_
         refine x_skip rfl rfl ?_
         refine x_skip rfl rfl ?_
         refine x_skip rfl rfl ?_
         refine x_pickT rfl rfl rfl rfl ?_
         exact x_nil (hK _ _ _ _ (by repeat (first | exact trivial | refine And.intro rfl ?_ | refine And.intro (by exact congrArg (fun b => some (V.p (PV.bool b))) (by clear hR1_0 hR2_0 hR1_1 hR2_1 hr hr2; simp only [kOkB, inR]; (try simp at hg50); (try simp at hg57); (try simp only [decide_eq_true_eq, decide_eq_false_iff_not] at hg62); rw [Bool.eq_iff_iff]; simp; omega)) ?_)) (by repeat first | exact trivial | refine .intro rfl ?_))
        ·refine x_move rfl rfl rfl ?_
         refine x_fa rfl rfl rfl fld40_0 rfl ?_
         refine x_ldL rfl rfl rfl isag32 rfl rfl ?_
         refine x_len rfl rfl rfl (by first | assumption | exact Rd.enc) und32 ?_
         refine x_bin rfl rfl rfl rfl rfl ?_
         refine x_pickF rfl rfl rfl rfl ?_
         refine x_moveS rfl rfl rfl (fun hg57 => ?_) (fun hg57 => ?_)
         ·refine x_skip rfl rfl ?_
          refine x_skip rfl rfl ?_
          refine x_skip rfl rfl ?_
          refine x_skip rfl rfl ?_
          refine x_skip rfl rfl ?_
          refine x_skip rfl rfl ?_
          refine x_skip rfl rfl ?_
          refine x_skip rfl rfl ?_
          refine x_skip rfl rfl ?_
          refine x_skip rfl rfl ?_
          refine x_skip rfl rfl ?_
          refine x_pickT rfl rfl rfl rfl ?_
          exact x_nil (hK _ _ _ _ (by repeat (first | exact trivial | refine And.intro rfl ?_ | refine And.intro (by exact congrArg (fun b => some (V.p (PV.bool b))) (by clear hR1_0 hR2_0 hR1_1 hR2_1 hr hr2; simp only [kOkB, inR]; (try simp at hg50); (try simp at hg57); (try simp only [decide_eq_true_eq, decide_eq_false_iff_not] at hg62); rw [Bool.eq_iff_iff]; simp; omega)) ?_)) (by repeat first | exact trivial | refine .intro rfl ?_))
         ·refine x_fa rfl rfl rfl fld37_1 rfl ?_
          refine x_ldL rfl rfl rfl isag35 rfl rfl ?_
          refine x_len rfl rfl rfl (by first | assumption | exact Rd.enc) und35 ?_
          refine x_bin rfl rfl rfl rfl rfl ?_
          refine x_moveS rfl rfl rfl (fun hg62 => ?_) (fun hg62 => ?_)
          ·refine x_move rfl rfl rfl ?_
           refine x_fa rfl rfl rfl fld37_1 rfl ?_
           refine x_ldL rfl rfl rfl isag35 rfl rfl ?_
           refine x_len rfl rfl rfl (by first | assumption | exact Rd.enc) und35 ?_
           refine x_bin rfl rfl rfl rfl rfl ?_
           refine x_pickT rfl rfl rfl rfl ?_
           refine x_pickF rfl rfl rfl rfl ?_
           exact x_nil (hK _ _ _ _ (by repeat (first | exact trivial | refine And.intro rfl ?_ | refine And.intro (by exact congrArg (fun b => some (V.p (PV.bool b))) (by clear hR1_0 hR2_0 hR1_1 hR2_1 hr hr2; simp only [kOkB, inR]; (try simp at hg50); (try simp at hg57); (try simp only [decide_eq_true_eq, decide_eq_false_iff_not] at hg62); rw [Bool.eq_iff_iff]; simp; omega)) ?_)) (by repeat first | exact trivial | refine .intro rfl ?_))
          ·refine x_skip rfl rfl ?_
           refine x_skip rfl rfl ?_
           refine x_skip rfl rfl ?_
           refine x_skip rfl rfl ?_
           refine x_skip rfl rfl ?_
           refine x_pickF rfl rfl rfl rfl ?_
           refine x_pickF rfl rfl rfl rfl ?_
           exact x_nil (hK _ _ _ _ (by repeat (first | exact trivial | refine And.intro rfl ?_ | refine And.intro (by exact congrArg (fun b => some (V.p (PV.bool b))) (by clear hR1_0 hR2_0 hR1_1 hR2_1 hr hr2; simp only [kOkB, inR]; (try simp at hg50); (try simp at hg57); (try simp only [decide_eq_true_eq, decide_eq_false_iff_not] at hg62); rw [Bool.eq_iff_iff]; simp; omega)) ?_)) (by repeat first | exact trivial | refine .intro rfl ?_))
       intro b rb
       refine go_seq ?_
       refine xc_cond _ rfl (fun hc3 => ?_) (fun hc3 => ?_)
       ·have hko : kOkB L.l.length h.names.l.length i k = false := by simpa using hc3
        refine wc_seq (wc_reg fun K hK => ?_)
        refine x_assign rfl rfl rfl ?_
        refine x_nil (hK _ ?_); clear hK K
        refine go_seq (wc_ret (go_blk_ret (go_seq_ret ?_)))
        refine hR2_1 _ _ (by simp) ?_
        refine go_blk_ret (go_seq_ret (go_blk_ret (go_seq_ret ?_)))
        refine hR2_0 _ _ (by simp) ?_
        refine go_blk_ret (go_seq_ret ?_)
        exact x_end1 (Or.inr rfl) rfl rfl rfl rfl rfl rfl (by rw [rightG_no hm (by unfold rightH; rw [rng_no hlt2 (by rw [e3]; exact hko), Bool.false_and])])
       ·have hko : kOkB L.l.length h.names.l.length i k = true := by simpa using hc3
        refine wc_skip (go_blk (go_seq (wc_reg fun K hK => ?_)))
        refine x_inc rfl rfl rfl rfl (by omega) ?_
        refine x_move rfl rfl rfl ?_
        refine x_nil (hK _ ?_); clear hK K
        exact hR1_1 (i + 1) _ _ _ _ ⟨hlt2, fun q hq => by rcases Nat.lt_succ_iff_lt_or_eq.1 hq with hq | rfl; (exact hr2 q hq); rw [e3]; exact hko⟩ (by omega) (by repeat first | exact trivial | refine .intro rfl ?_) (by repeat first | exact trivial | refine .intro rfl ?_)
      ·have hf1 : ((List.range h.kids.l.length).all fun i => kOkB L.l.length h.names.l.length i (h.kids.l.getD i 0)) = true := rng_yes fun q hq => hr2 q (by simp at hc2; omega)
       refine wc_exit ?_
       refine go_seq_exit ?_
       refine hR2_1 _ _ (by simp) ?_
       refine go_blk_exit (go_seq (wc_seq (wc_seq (wc_reg fun K hK => ?_))))
       refine x_fa rfl rfl rfl fld37_1 rfl ?_
       refine x_ldL rfl rfl rfl isag35 rfl rfl ?_
       refine x_len rfl rfl rfl (by first | assumption | exact Rd.enc) und35 ?_
       refine x_move rfl rfl rfl ?_
       refine x_nil (hK _ ?_); clear hK K
       refine go_seq (wc_block ?_)
       refine xc_loop [(1, _), (4, _), (34, _), (35, _), (36, _), (41, _), (42, _), (43, _), (73, _)] [(1, _), (4, _)] (fun i : Nat => [(74, .p (.int .i64 i))]) (fun i : Nat => i ≤ h.names.l.length ∧ ∀ k, k < i → nmOkB h.kind h.names.l k = true) (fun i : Nat => h.names.l.length - i) 0 (by repeat first | exact trivial | refine .intro rfl ?_) (by repeat first | exact trivial | refine .intro rfl ?_) ⟨Nat.zero_le _, fun i hi => by omega⟩ ?_
       rintro i R2 hR1_2 hR2_2 ⟨hi, hr3⟩ b rb
       refine wc_seq (wc_reg fun K hK => ?_)
       refine x_bin rfl rfl rfl rfl rfl ?_
       refine x_nil (hK _ ?_); clear hK K
       refine go_seq (wc_seq ?_)
       refine xc_cond _ rfl (fun hc4 => ?_) (fun hc4 => ?_)
       ·have hlt3 : i < h.names.l.length := by simp at hc4; omega
        obtain ⟨s, e2⟩ : ∃ s, h.names.l[i]? = some s := ⟨_, List.getElem?_eq_getElem hlt3⟩
        have hms : s ∈ h.names.l := List.mem_of_getElem? e2
        have hss := (hh h hm).each s hms
        have e3 : h.names.l.getD i default = s := by rw [List.getD_eq_getElem?_getD, e2]; rfl
        refine wc_skip (go_seq (wc_seq (wc_block (wc_seq (wc_reg fun K hK => ?_)))))
        refine x_move rfl rfl rfl ?_
        refine x_assign rfl rfl rfl ?_
        refine x_nil (hK _ ?_); clear hK K
        refine go_seq (wc_seq (wc_seq ?_))
        refine xc_drwCut [0, 1, 2, 3, 4, 5, 6, 7, 8, 9, 10, 11, 12, 13, 14, 15] mixed (by kernel_rfl) [(1, _), (4, _), (7, _), (34, _), (35, _), (36, _), (41, _), (42, _), (43, _), (73, _), (74, _)] [(1, _), (4, _)] [(92, .p (.bool (!nmLt h.names.l i)))] (by repeat first | exact trivial | refine .intro rfl ?_) (by repeat first | exact trivial | refine .intro rfl ?_) (fun K hK => ?_) ?_
        ·refine x_move rfl rfl rfl ?_
         refine x_bin rfl rfl rfl rfl rfl ?_
         refine x_moveS rfl rfl rfl (fun hg79 => ?_) (fun hg79 => ?_)
         ·have hj0 : 0 < i := by simp at hg79; omega
          obtain ⟨s1, e4⟩ : ∃ s1, h.names.l[i - 1]? = some s1 := ⟨_, List.getElem?_eq_getElem (by omega)⟩
          have e5 : h.names.l[((i : Int) - 1).toNat]? = some s1 := by rw [show ((i : Int) - 1).toNat = i - 1 by omega]; exact e4
          have e6 : h.names.l.getD (i - 1) default = s1 := by rw [List.getD_eq_getElem?_getD, e4]; rfl
          have e7 : (i == 0) = false := by simp; omega
          refine x_fa rfl rfl rfl fld37_1 rfl ?_
          refine x_ldL rfl rfl rfl isag35 rfl rfl ?_
          refine x_move rfl rfl rfl ?_
          refine x_sub rfl rfl rfl rfl (by omega) (by omega) ?_
          refine x_iaI rfl rfl rfl Rd.enc rfl und35 sz9 rfl (by omega) e5 rfl ?_
          refine x_ldR rfl rfl rfl isag9 rfl ?_
          refine x_fa rfl rfl rfl fld37_1 rfl ?_
          refine x_ldL rfl rfl rfl isag35 rfl rfl ?_
          refine x_move rfl rfl rfl ?_
          refine x_ia rfl rfl rfl (by first | assumption | exact Rd.enc) rfl und35 sz9 rfl (by assumption) rfl ?_
          refine x_ldR rfl rfl rfl isag9 rfl ?_
          refine x_bin rfl rfl rfl rfl rfl ?_
          refine x_pickT rfl rfl rfl rfl ?_
          exact x_nil (hK _ _ _ _ (by repeat (first | exact trivial | refine And.intro rfl ?_ | refine And.intro (by exact congrArg (fun b => some (V.p (PV.bool b))) (by first | (simp only [nmLt, e6, e3, e7, strLt, Bool.false_or]; done) | (simp only [nmLt, e7, Bool.true_or]; rfl))) ?_)) (by repeat first | exact trivial | refine .intro rfl ?_))
         ·have e7 : (i == 0) = true := by simp at hg79 ⊢; omega
          refine x_skip rfl rfl ?_
          refine x_skip rfl rfl ?_
          refine x_skip rfl rfl ?_
          refine x_skip rfl rfl ?_
          refine x_skip rfl rfl ?_
          refine x_skip rfl rfl ?_
          refine x_skip rfl rfl ?_
          refine x_skip rfl rfl ?_
          refine x_skip rfl rfl ?_
          refine x_skip rfl rfl ?_
          refine x_skip rfl rfl ?_
          refine x_skip rfl rfl ?_
          refine x_pickF rfl rfl rfl rfl ?_
          exact x_nil (hK _ _ _ _ (by repeat (first | exact trivial | refine And.intro rfl ?_ | refine And.intro (by exact congrArg (fun b => some (V.p (PV.bool b))) (by first | (simp only [nmLt, e6, e3, e7, strLt, Bool.false_or]; done) | (simp only [nmLt, e7, Bool.true_or]; rfl))) ?_)) (by repeat first | exact trivial | refine .intro rfl ?_))
        intro b rb
        refine go_seq ?_
        refine xc_cond _ rfl (fun hc5 => ?_) (fun hc5 => ?_)
        ·refine wc_seq (wc_reg fun K hK => ?_)
         refine x_assign rfl rfl rfl ?_
         refine x_nil (hK _ ?_); clear hK K
         refine go_seq (wc_ret (go_seq_ret (go_blk_ret (go_seq_ret ?_))))
         refine hR2_2 _ _ (by simp) ?_
         refine go_blk_ret (go_seq_ret (go_blk_ret (go_seq_ret ?_)))
         refine hR2_0 _ _ (by simp) ?_
         refine go_blk_ret (go_seq_ret ?_)
         exact x_end1 (Or.inr rfl) rfl rfl rfl rfl rfl rfl (by rw [rightG_no hm (by have hlt : nmLt h.names.l i = false := (by simpa using hc5); unfold rightH; rw [rng_no (p := nmOkB h.kind h.names.l) hlt3 (by simp only [nmOkB, hlt, Bool.false_and]), Bool.false_and, Bool.and_false])])
        ·have hnl : nmLt h.names.l i = true := by simpa using hc5
         refine wc_skip (go_seq (wc_seq ?_))
         refine xc_regCut [(1, _), (4, _), (34, _), (35, _), (36, _), (41, _), (42, _), (43, _), (73, _), (74, _)] [(1, _), (4, _)] [(118, .p (.bool (nmBad h.kind s)))] (by repeat first | exact trivial | refine .intro rfl ?_) (by repeat first | exact trivial | refine .intro rfl ?_) (fun K hK => ?_) ?_
         ·refine x_fa rfl rfl rfl fld37_0 rfl ?_
          refine x_ldL rfl rfl rfl isag3 rfl rfl ?_
          refine x_bin rfl rfl rfl rfl rfl ?_
          refine x_moveS rfl rfl rfl (fun hg96 => ?_) (fun hg96 => ?_)
          ·refine x_fa rfl rfl rfl fld37_1 rfl ?_
           refine x_ldL rfl rfl rfl isag35 rfl rfl ?_
           refine x_move rfl rfl rfl ?_
           refine x_ia rfl rfl rfl (by first | assumption | exact Rd.enc) rfl und35 sz9 rfl (by assumption) rfl ?_
           refine x_ldR rfl rfl rfl isag9 rfl ?_
           refine x_call rfl rfl rfl (by repeat (first | exact ho_nil | refine ho_cons (by first | rfl | exact rd_ho (by assumption)) ?_)) okf39 (nameR_ok s hss _) ?_
           refine x_not rfl rfl rfl ?_
           refine x_pickT rfl rfl rfl rfl ?_
           refine x_moveS rfl rfl rfl (fun hg105 => ?_) (fun hg105 => ?_)
           ·refine x_skip rfl rfl ?_
            refine x_skip rfl rfl ?_
            refine x_skip rfl rfl ?_
            refine x_skip rfl rfl ?_
            refine x_skip rfl rfl ?_
            refine x_skip rfl rfl ?_
            refine x_skip rfl rfl ?_
            refine x_skip rfl rfl ?_
            refine x_skip rfl rfl ?_
            refine x_skip rfl rfl ?_
            refine x_skip rfl rfl ?_
            refine x_skip rfl rfl ?_
            refine x_pickT rfl rfl rfl rfl ?_
            exact x_nil (hK _ _ _ _ (by repeat (first | exact trivial | refine And.intro rfl ?_ | refine And.intro (by exact congrArg (fun b => some (V.p (PV.bool b))) (by simp only [nmBad]; simp_all)) ?_)) (by repeat first | exact trivial | refine .intro rfl ?_))
           ·refine x_fa rfl rfl rfl fld37_0 rfl ?_
            refine x_ldL rfl rfl rfl isag3 rfl rfl ?_
            refine x_bin rfl rfl rfl rfl rfl ?_
            refine x_moveS rfl rfl rfl (fun hg109 => ?_) (fun hg109 => ?_)
            ·refine x_fa rfl rfl rfl fld37_1 rfl ?_
             refine x_ldL rfl rfl rfl isag35 rfl rfl ?_
             refine x_move rfl rfl rfl ?_
             refine x_ia rfl rfl rfl (by first | assumption | exact Rd.enc) rfl und35 sz9 rfl (by assumption) rfl ?_
             refine x_ldR rfl rfl rfl isag9 rfl ?_
             refine x_call rfl rfl rfl (by repeat (first | exact ho_nil | refine ho_cons (by first | rfl | exact rd_ho (by assumption)) ?_)) okf40 (tagR_ok s hss _) ?_
             refine x_not rfl rfl rfl ?_
             refine x_pickT rfl rfl rfl rfl ?_
             refine x_pickF rfl rfl rfl rfl ?_
             exact x_nil (hK _ _ _ _ (by repeat (first | exact trivial | refine And.intro rfl ?_ | refine And.intro (by exact congrArg (fun b => some (V.p (PV.bool b))) (by simp only [nmBad]; simp_all)) ?_)) (by repeat first | exact trivial | refine .intro rfl ?_))
            ·refine x_skip rfl rfl ?_
             refine x_skip rfl rfl ?_
             refine x_skip rfl rfl ?_
             refine x_skip rfl rfl ?_
             refine x_skip rfl rfl ?_
             refine x_skip rfl rfl ?_
             refine x_skip rfl rfl ?_
             refine x_pickF rfl rfl rfl rfl ?_
             refine x_pickF rfl rfl rfl rfl ?_
             exact x_nil (hK _ _ _ _ (by repeat (first | exact trivial | refine And.intro rfl ?_ | refine And.intro (by exact congrArg (fun b => some (V.p (PV.bool b))) (by simp only [nmBad]; simp_all)) ?_)) (by repeat first | exact trivial | refine .intro rfl ?_))
          ·refine x_skip rfl rfl ?_
           refine x_skip rfl rfl ?_
           refine x_skip rfl rfl ?_
           refine x_skip rfl rfl ?_
           refine x_skip rfl rfl ?_
           refine x_skip rfl rfl ?_
           refine x_skip rfl rfl ?_
           refine x_pickF rfl rfl rfl rfl ?_
           refine x_move rfl rfl rfl ?_
           refine x_fa rfl rfl rfl fld37_0 rfl ?_
           refine x_ldL rfl rfl rfl isag3 rfl rfl ?_
           refine x_bin rfl rfl rfl rfl rfl ?_
           refine x_moveS rfl rfl rfl (fun hg109 => ?_) (fun hg109 => ?_)
           ·refine x_fa rfl rfl rfl fld37_1 rfl ?_
            refine x_ldL rfl rfl rfl isag35 rfl rfl ?_
            refine x_move rfl rfl rfl ?_
            refine x_ia rfl rfl rfl (by first | assumption | exact Rd.enc) rfl und35 sz9 rfl (by assumption) rfl ?_
            refine x_ldR rfl rfl rfl isag9 rfl ?_
            refine x_call rfl rfl rfl (by repeat (first | exact ho_nil | refine ho_cons (by first | rfl | exact rd_ho (by assumption)) ?_)) okf40 (tagR_ok s hss _) ?_
            refine x_not rfl rfl rfl ?_
            refine x_pickT rfl rfl rfl rfl ?_
            refine x_pickF rfl rfl rfl rfl ?_
            exact x_nil (hK _ _ _ _ (by repeat (first | exact trivial | refine And.intro rfl ?_ | refine And.intro (by exact congrArg (fun b => some (V.p (PV.bool b))) (by simp only [nmBad]; simp_all)) ?_)) (by repeat first | exact trivial | refine .intro rfl ?_))
           ·refine x_skip rfl rfl ?_
            refine x_skip rfl rfl ?_
            refine x_skip rfl rfl ?_
            refine x_skip rfl rfl ?_
            refine x_skip rfl rfl ?_
            refine x_skip rfl rfl ?_
            refine x_skip rfl rfl ?_
            refine x_pickF rfl rfl rfl rfl ?_
            refine x_pickF rfl rfl rfl rfl ?_
            exact x_nil (hK _ _ _ _ (by repeat (first | exact trivial | refine And.intro rfl ?_ | refine And.intro (by exact congrArg (fun b => some (V.p (PV.bool b))) (by simp only [nmBad]; simp_all)) ?_)) (by repeat first | exact trivial | refine .intro rfl ?_))
         intro b rb
         refine go_seq ?_
         refine xc_cond _ rfl (fun hc6 => ?_) (fun hc6 => ?_)
         ·refine wc_seq (wc_reg fun K hK => ?_)
          refine x_assign rfl rfl rfl ?_
          refine x_nil (hK _ ?_); clear hK K
          refine go_seq (wc_ret (go_blk_ret (go_seq_ret ?_)))
          refine hR2_2 _ _ (by simp) ?_
          refine go_blk_ret (go_seq_ret (go_blk_ret (go_seq_ret ?_)))
          refine hR2_0 _ _ (by simp) ?_
          refine go_blk_ret (go_seq_ret ?_)
          exact x_end1 (Or.inr rfl) rfl rfl rfl rfl rfl rfl (by rw [rightG_no hm (by have hb : nmBad h.kind s = true := hc6; unfold rightH; rw [rng_no (p := nmOkB h.kind h.names.l) hlt3 (by simp only [nmOkB, e3, hb]; simp), Bool.false_and, Bool.and_false])])
         ·refine wc_skip (go_blk (go_seq (wc_reg fun K hK => ?_)))
          refine x_inc rfl rfl rfl rfl (by omega) ?_
          refine x_move rfl rfl rfl ?_
          refine x_nil (hK _ ?_); clear hK K
          exact hR1_2 (i + 1) _ _ _ _ ⟨hlt3, fun q hq => by rcases Nat.lt_succ_iff_lt_or_eq.1 hq with hq | rfl; (exact hr3 q hq); have hb : nmBad h.kind s = false := hc6; simp only [nmOkB, hnl, e3, hb]; rfl⟩ (by omega) (by repeat first | exact trivial | refine .intro rfl ?_) (by repeat first | exact trivial | refine .intro rfl ?_)
       ·have hf2 : ((List.range h.names.l.length).all (nmOkB h.kind h.names.l)) = true := rng_yes fun q hq => hr3 q (by simp at hc4; omega)
        refine wc_exit ?_
        refine go_seq_exit ?_
        refine hR2_2 _ _ (by simp) ?_
        refine go_blk_exit (go_seq (wc_seq (wc_reg fun K hK => ?_)))
        refine x_assign rfl rfl rfl ?_
        refine x_assign rfl rfl rfl ?_
        refine x_nil (hK _ ?_); clear hK K
        refine go_seq (wc_seq (wc_block (wc_seq (wc_reg fun K hK => ?_))))
        refine x_fa rfl rfl rfl fld37_0 rfl ?_
        refine x_ldL rfl rfl rfl isag3 rfl rfl ?_
        refine x_bin rfl rfl rfl rfl rfl ?_
        refine x_assign rfl rfl rfl ?_
        refine x_nil (hK _ ?_); clear hK K
        refine go_seq ?_
        refine xc_cond _ rfl (fun hc7 => ?_) (fun hc7 => ?_)
        ·have hkK : kK h = 2 := by unfold kK; rw [hc7]; rfl
         have hkN : kN h = 0 := by unfold kN; rw [hc7]; rfl
         have hkd : kindB h = true := by unfold kindB; rw [hc7]; rfl
         refine wc_reg fun K hK => ?_
         refine x_assign rfl rfl rfl ?_
         refine x_nil (hK _ ?_); clear hK K
         refine go_blk (go_seq (wc_seq ?_))
         refine xc_regCut [(1, _), (4, _), (34, _), (35, _), (36, _), (41, _), (42, _), (43, _), (73, _), (74, _)] [(1, _), (4, _)] [(168, .p (.bool (!shpT h)))] (by repeat first | exact trivial | refine .intro rfl ?_) (by repeat first | exact trivial | refine .intro rfl ?_) (fun K hK => ?_) ?_
         ·refine x_fa rfl rfl rfl fld37_2 rfl ?_
          refine x_ldL rfl rfl rfl isag27 rfl rfl ?_
          refine x_len rfl rfl rfl (by first | assumption | exact Rd.enc) und27 ?_
          refine x_move rfl rfl rfl ?_
          refine x_bin rfl rfl rfl rfl rfl ?_
          refine x_moveS rfl rfl rfl (fun hg153 => ?_) (fun hg153 => ?_)
          ·refine x_skip rfl rfl ?_
           refine x_skip rfl rfl ?_
           refine x_skip rfl rfl ?_
           refine x_skip rfl rfl ?_
           refine x_skip rfl rfl ?_
           refine x_pickT rfl rfl rfl rfl ?_
           refine x_move rfl rfl rfl ?_
           refine x_skip rfl rfl ?_
           refine x_skip rfl rfl ?_
           refine x_skip rfl rfl ?_
           refine x_skip rfl rfl ?_
           refine x_skip rfl rfl ?_
           refine x_skip rfl rfl ?_
           refine x_skip rfl rfl ?_
           refine x_pickT rfl rfl rfl rfl ?_
           exact x_nil (hK _ _ _ _ (by repeat (first | exact trivial | refine And.intro rfl ?_ | refine And.intro (by exact congrArg (fun b => some (V.p (PV.bool b))) (by simp only [shpT, hkK, hkN]; (try simp only [bne, Bool.not_eq_true', Bool.not_eq_false'] at hg153); (try simp only [bne, Bool.not_eq_true', Bool.not_eq_false'] at hg160); rw [hg153]; (try rw [hg160]); (try rw [hg163]); first | rfl | simp [bne])) ?_)) (by repeat first | exact trivial | refine .intro rfl ?_))
          ·refine x_fa rfl rfl rfl fld37_1 rfl ?_
           refine x_ldL rfl rfl rfl isag35 rfl rfl ?_
           refine x_len rfl rfl rfl (by first | assumption | exact Rd.enc) und35 ?_
           refine x_move rfl rfl rfl ?_
           refine x_bin rfl rfl rfl rfl rfl ?_
           refine x_pickF rfl rfl rfl rfl ?_
           refine x_moveS rfl rfl rfl (fun hg160 => ?_) (fun hg160 => ?_)
           ·refine x_skip rfl rfl ?_
            refine x_skip rfl rfl ?_
            refine x_skip rfl rfl ?_
            refine x_skip rfl rfl ?_
            refine x_skip rfl rfl ?_
            refine x_skip rfl rfl ?_
            refine x_skip rfl rfl ?_
            refine x_pickT rfl rfl rfl rfl ?_
            exact x_nil (hK _ _ _ _ (by repeat (first | exact trivial | refine And.intro rfl ?_ | refine And.intro (by exact congrArg (fun b => some (V.p (PV.bool b))) (by simp only [shpT, hkK, hkN]; (try simp only [bne, Bool.not_eq_true', Bool.not_eq_false'] at hg153); (try simp only [bne, Bool.not_eq_true', Bool.not_eq_false'] at hg160); rw [hg153]; (try rw [hg160]); (try rw [hg163]); first | rfl | simp [bne])) ?_)) (by repeat first | exact trivial | refine .intro rfl ?_))
           ·refine x_fa rfl rfl rfl fld37_3 rfl ?_
            refine x_ldL rfl rfl rfl isag4 rfl rfl ?_
            refine x_moveS rfl rfl rfl (fun hg163 => ?_) (fun hg163 => ?_)
            ·refine x_fa rfl rfl rfl fld37_0 rfl ?_
             refine x_ldL rfl rfl rfl isag3 rfl rfl ?_
             refine x_bin rfl rfl rfl rfl rfl ?_
             refine x_pickT rfl rfl rfl rfl ?_
             refine x_pickF rfl rfl rfl rfl ?_
             exact x_nil (hK _ _ _ _ (by repeat (first | exact trivial | refine And.intro rfl ?_ | refine And.intro (by exact congrArg (fun b => some (V.p (PV.bool b))) (by simp only [shpT, hkK, hkN]; (try simp only [bne, Bool.not_eq_true', Bool.not_eq_false'] at hg153); (try simp only [bne, Bool.not_eq_true', Bool.not_eq_false'] at hg160); rw [hg153]; (try rw [hg160]); (try rw [hg163]); first | rfl | simp [bne])) ?_)) (by repeat first | exact trivial | refine .intro rfl ?_))
            ·refine x_skip rfl rfl ?_
             refine x_skip rfl rfl ?_
             refine x_skip rfl rfl ?_
             refine x_pickF rfl rfl rfl rfl ?_
             refine x_pickF rfl rfl rfl rfl ?_
             exact x_nil (hK _ _ _ _ (by repeat (first | exact trivial | refine And.intro rfl ?_ | refine And.intro (by exact congrArg (fun b => some (V.p (PV.bool b))) (by simp only [shpT, hkK, hkN]; (try simp only [bne, Bool.not_eq_true', Bool.not_eq_false'] at hg153); (try simp only [bne, Bool.not_eq_true', Bool.not_eq_false'] at hg160); rw [hg153]; (try rw [hg160]); (try rw [hg163]); first | rfl | simp [bne])) ?_)) (by repeat first | exact trivial | refine .intro rfl ?_))
         intro b rb
         refine go_seq ?_
         refine xc_cond _ rfl (fun hc8 => ?_) (fun hc8 => ?_)
         ·refine wc_seq (wc_reg fun K hK => ?_)
          refine x_assign rfl rfl rfl ?_
          refine x_nil (hK _ ?_); clear hK K
          refine go_seq (wc_ret (go_blk_ret (go_seq_ret ?_)))
          refine hR2_0 _ _ (by simp) ?_
          refine go_blk_ret (go_seq_ret ?_)
          exact x_end1 (Or.inr rfl) rfl rfl rfl rfl rfl rfl (by rw [rightG_no hm (by have hs : shpT h = false := (by simpa using hc8); unfold rightH; rw [hs, Bool.and_false, Bool.and_false, Bool.and_false])])
         ·refine wc_skip (go_blk (go_seq (wc_reg fun K hK => ?_)))
          refine x_inc rfl rfl rfl rfl (by omega) ?_
          refine x_move rfl rfl rfl ?_
          refine x_nil (hK _ ?_); clear hK K
          exact hR1_0 (j + 1) _ _ _ _ ⟨hlt, leadP_up (p := rightH L.l.length) hr e1 (by have hs : shpT h = true := (by simpa using hc8); unfold rightH; rw [hf1, hf2, hkd, hs]; rfl)⟩ (by omega) (by repeat first | exact trivial | refine .intro rfl ?_) (by repeat first | exact trivial | refine .intro rfl ?_)
        ·refine wc_seq ?_
         refine xc_regCut [(1, _), (4, _), (8, _), (9, _), (34, _), (35, _), (36, _), (41, _), (42, _), (43, _), (73, _), (74, _)] [(1, _), (4, _)] [(124, .p (.bool (h.kind == 8 || h.kind == 9)))] (by repeat first | exact trivial | refine .intro rfl ?_) (by repeat first | exact trivial | refine .intro rfl ?_) (fun K hK => ?_) ?_
         ·refine x_fa rfl rfl rfl fld37_0 rfl ?_
          refine x_ldL rfl rfl rfl isag3 rfl rfl ?_
          refine x_bin rfl rfl rfl rfl rfl ?_
          refine x_moveS rfl rfl rfl (fun hg128 => ?_) (fun hg128 => ?_)
          ·refine x_skip rfl rfl ?_
           refine x_skip rfl rfl ?_
           refine x_skip rfl rfl ?_
           refine x_pickT rfl rfl rfl rfl ?_
           refine x_assign rfl rfl rfl ?_
           exact x_nil (hK _ _ _ _ (by repeat (first | exact trivial | refine And.intro rfl ?_ | refine And.intro (by exact congrArg (fun b => some (V.p (PV.bool b))) (by rw [hg128]; rfl)) ?_)) (by repeat first | exact trivial | refine .intro rfl ?_))
          ·refine x_fa rfl rfl rfl fld37_0 rfl ?_
           refine x_ldL rfl rfl rfl isag3 rfl rfl ?_
           refine x_bin rfl rfl rfl rfl rfl ?_
           refine x_pickF rfl rfl rfl rfl ?_
           refine x_assign rfl rfl rfl ?_
           exact x_nil (hK _ _ _ _ (by repeat (first | exact trivial | refine And.intro rfl ?_ | refine And.intro (by exact congrArg (fun b => some (V.p (PV.bool b))) (by rw [hg128]; rfl)) ?_)) (by repeat first | exact trivial | refine .intro rfl ?_))
         intro b rb
         refine go_seq ?_
         refine xc_cond _ rfl (fun hc9 => ?_) (fun hc9 => ?_)
         ·have hkK : kK h = h.names.l.length := by unfold kK; rw [hc7, hc9]; rfl
          have hkN : kN h = h.names.l.length := by unfold kN; rw [hc7, hc9]; rfl
          have hkd : kindB h = true := by unfold kindB; rw [hc7, hc9]; rfl
          refine xc_drw [0, 1, 2, 3, 4, 5, 6, 7] mixed (by kernel_rfl) fun K hK => ?_
          refine x_fa rfl rfl rfl fld37_1 rfl ?_
          refine x_ldL rfl rfl rfl isag35 rfl rfl ?_
          refine x_len rfl rfl rfl (by first | assumption | exact Rd.enc) und35 ?_
          refine x_fa rfl rfl rfl fld37_1 rfl ?_
          refine x_ldL rfl rfl rfl isag35 rfl rfl ?_
          refine x_len rfl rfl rfl (by first | assumption | exact Rd.enc) und35 ?_
          refine x_assign rfl rfl rfl ?_
          refine x_assign rfl rfl rfl ?_
          refine x_nil (hK _ ?_); clear hK K
          refine go_blk (go_seq (wc_seq ?_))
          refine xc_regCut [(1, _), (4, _), (34, _), (35, _), (36, _), (41, _), (42, _), (43, _), (73, _), (74, _)] [(1, _), (4, _)] [(168, .p (.bool (!shpT h)))] (by repeat first | exact trivial | refine .intro rfl ?_) (by repeat first | exact trivial | refine .intro rfl ?_) (fun K hK => ?_) ?_
          ·refine x_fa rfl rfl rfl fld37_2 rfl ?_
           refine x_ldL rfl rfl rfl isag27 rfl rfl ?_
           refine x_len rfl rfl rfl (by first | assumption | exact Rd.enc) und27 ?_
           refine x_move rfl rfl rfl ?_
           refine x_bin rfl rfl rfl rfl rfl ?_
           refine x_moveS rfl rfl rfl (fun hg153 => ?_) (fun hg153 => ?_)
           ·refine x_skip rfl rfl ?_
            refine x_skip rfl rfl ?_
            refine x_skip rfl rfl ?_
            refine x_skip rfl rfl ?_
            refine x_skip rfl rfl ?_
            refine x_pickT rfl rfl rfl rfl ?_
            refine x_move rfl rfl rfl ?_
            refine x_skip rfl rfl ?_
            refine x_skip rfl rfl ?_
            refine x_skip rfl rfl ?_
            refine x_skip rfl rfl ?_
            refine x_skip rfl rfl ?_
            refine x_skip rfl rfl ?_
            refine x_skip rfl rfl ?_
            refine x_pickT rfl rfl rfl rfl ?_
            exact x_nil (hK _ _ _ _ (by repeat (first | exact trivial | refine And.intro rfl ?_ | refine And.intro (by exact congrArg (fun b => some (V.p (PV.bool b))) (by simp only [shpT, hkK, hkN]; (try simp only [bne, Bool.not_eq_true', Bool.not_eq_false'] at hg153); (try simp only [bne, Bool.not_eq_true', Bool.not_eq_false'] at hg160); rw [hg153]; (try rw [hg160]); (try rw [hg163]); first | rfl | simp [bne])) ?_)) (by repeat first | exact trivial | refine .intro rfl ?_))
           ·refine x_fa rfl rfl rfl fld37_1 rfl ?_
            refine x_ldL rfl rfl rfl isag35 rfl rfl ?_
            refine x_len rfl rfl rfl (by first | assumption | exact Rd.enc) und35 ?_
            refine x_move rfl rfl rfl ?_
            refine x_bin rfl rfl rfl rfl rfl ?_
            refine x_pickF rfl rfl rfl rfl ?_
            refine x_moveS rfl rfl rfl (fun hg160 => ?_) (fun hg160 => ?_)
            ·refine x_skip rfl rfl ?_
             refine x_skip rfl rfl ?_
             refine x_skip rfl rfl ?_
             refine x_skip rfl rfl ?_
             refine x_skip rfl rfl ?_
             refine x_skip rfl rfl ?_
             refine x_skip rfl rfl ?_
             refine x_pickT rfl rfl rfl rfl ?_
             exact x_nil (hK _ _ _ _ (by repeat (first | exact trivial | refine And.intro rfl ?_ | refine And.intro (by exact congrArg (fun b => some (V.p (PV.bool b))) (by simp only [shpT, hkK, hkN]; (try simp only [bne, Bool.not_eq_true', Bool.not_eq_false'] at hg153); (try simp only [bne, Bool.not_eq_true', Bool.not_eq_false'] at hg160); rw [hg153]; (try rw [hg160]); (try rw [hg163]); first | rfl | simp [bne])) ?_)) (by repeat first | exact trivial | refine .intro rfl ?_))
            ·refine x_fa rfl rfl rfl fld37_3 rfl ?_
             refine x_ldL rfl rfl rfl isag4 rfl rfl ?_
             refine x_moveS rfl rfl rfl (fun hg163 => ?_) (fun hg163 => ?_)
             ·refine x_fa rfl rfl rfl fld37_0 rfl ?_
              refine x_ldL rfl rfl rfl isag3 rfl rfl ?_
              refine x_bin rfl rfl rfl rfl rfl ?_
              refine x_pickT rfl rfl rfl rfl ?_
              refine x_pickF rfl rfl rfl rfl ?_
              exact x_nil (hK _ _ _ _ (by repeat (first | exact trivial | refine And.intro rfl ?_ | refine And.intro (by exact congrArg (fun b => some (V.p (PV.bool b))) (by simp only [shpT, hkK, hkN]; (try simp only [bne, Bool.not_eq_true', Bool.not_eq_false'] at hg153); (try simp only [bne, Bool.not_eq_true', Bool.not_eq_false'] at hg160); rw [hg153]; (try rw [hg160]); (try rw [hg163]); first | rfl | simp [bne])) ?_)) (by repeat first | exact trivial | refine .intro rfl ?_))
             ·refine x_skip rfl rfl ?_
              refine x_skip rfl rfl ?_
              refine x_skip rfl rfl ?_
              refine x_pickF rfl rfl rfl rfl ?_
              refine x_pickF rfl rfl rfl rfl ?_
              exact x_nil (hK _ _ _ _ (by repeat (first | exact trivial | refine And.intro rfl ?_ | refine And.intro (by exact congrArg (fun b => some (V.p (PV.bool b))) (by simp only [shpT, hkK, hkN]; (try simp only [bne, Bool.not_eq_true', Bool.not_eq_false'] at hg153); (try simp only [bne, Bool.not_eq_true', Bool.not_eq_false'] at hg160); rw [hg153]; (try rw [hg160]); (try rw [hg163]); first | rfl | simp [bne])) ?_)) (by repeat first | exact trivial | refine .intro rfl ?_))
          intro b rb
          refine go_seq ?_
          refine xc_cond _ rfl (fun hc10 => ?_) (fun hc10 => ?_)
          ·refine wc_seq (wc_reg fun K hK => ?_)
           refine x_assign rfl rfl rfl ?_
           refine x_nil (hK _ ?_); clear hK K
           refine go_seq (wc_ret (go_blk_ret (go_seq_ret ?_)))
           refine hR2_0 _ _ (by simp) ?_
           refine go_blk_ret (go_seq_ret ?_)
           exact x_end1 (Or.inr rfl) rfl rfl rfl rfl rfl rfl (by rw [rightG_no hm (by have hs : shpT h = false := (by simpa using hc10); unfold rightH; rw [hs, Bool.and_false, Bool.and_false, Bool.and_false])])
          ·refine wc_skip (go_blk (go_seq (wc_reg fun K hK => ?_)))
           refine x_inc rfl rfl rfl rfl (by omega) ?_
           refine x_move rfl rfl rfl ?_
           refine x_nil (hK _ ?_); clear hK K
           exact hR1_0 (j + 1) _ _ _ _ ⟨hlt, leadP_up (p := rightH L.l.length) hr e1 (by have hs : shpT h = true := (by simpa using hc10); unfold rightH; rw [hf1, hf2, hkd, hs]; rfl)⟩ (by omega) (by repeat first | exact trivial | refine .intro rfl ?_) (by repeat first | exact trivial | refine .intro rfl ?_)
         ·refine wc_seq ?_
          refine xc_regCut [(1, _), (4, _), (8, _), (9, _), (34, _), (35, _), (36, _), (41, _), (42, _), (43, _), (73, _), (74, _)] [(1, _), (4, _)] [(139, .p (.bool (decide (h.kind < 0) || decide (h.kind > 6))))] (by repeat first | exact trivial | refine .intro rfl ?_) (by repeat first | exact trivial | refine .intro rfl ?_) (fun K hK => ?_) ?_
          ·refine x_fa rfl rfl rfl fld37_0 rfl ?_
           refine x_ldL rfl rfl rfl isag3 rfl rfl ?_
           refine x_bin rfl rfl rfl rfl rfl ?_
           refine x_moveS rfl rfl rfl (fun hg143 => ?_) (fun hg143 => ?_)
           ·refine x_skip rfl rfl ?_
            refine x_skip rfl rfl ?_
            refine x_skip rfl rfl ?_
            refine x_pickT rfl rfl rfl rfl ?_
            refine x_assign rfl rfl rfl ?_
            exact x_nil (hK _ _ _ _ (by repeat (first | exact trivial | refine And.intro rfl ?_ | refine And.intro (by exact congrArg (fun b => some (V.p (PV.bool b))) (by rw [hg143]; rfl)) ?_)) (by repeat first | exact trivial | refine .intro rfl ?_))
           ·refine x_fa rfl rfl rfl fld37_0 rfl ?_
            refine x_ldL rfl rfl rfl isag3 rfl rfl ?_
            refine x_bin rfl rfl rfl rfl rfl ?_
            refine x_pickF rfl rfl rfl rfl ?_
            refine x_assign rfl rfl rfl ?_
            exact x_nil (hK _ _ _ _ (by repeat (first | exact trivial | refine And.intro rfl ?_ | refine And.intro (by exact congrArg (fun b => some (V.p (PV.bool b))) (by rw [hg143]; rfl)) ?_)) (by repeat first | exact trivial | refine .intro rfl ?_))
          intro b rb
          refine go_seq ?_
          refine xc_cond _ rfl (fun hc11 => ?_) (fun hc11 => ?_)
          ·refine wc_seq (wc_reg fun K hK => ?_)
           refine x_assign rfl rfl rfl ?_
           refine x_nil (hK _ ?_); clear hK K
           refine go_seq (wc_ret (go_blk_ret (go_seq_ret (go_blk_ret (go_seq_ret ?_)))))
           refine hR2_0 _ _ (by simp) ?_
           refine go_blk_ret (go_seq_ret ?_)
           exact x_end1 (Or.inr rfl) rfl rfl rfl rfl rfl rfl (by rw [rightG_no hm (by have hs : kindB h = false := (by unfold kindB; rw [hc7, hc9, hc11]; rfl); unfold rightH; rw [hs, Bool.false_and, Bool.and_false, Bool.and_false])])
          ·have hkK : kK h = 0 := by unfold kK; rw [hc7, hc9]; rfl
           have hkN : kN h = 0 := by unfold kN; rw [hc7, hc9]; rfl
           have hkd : kindB h = true := by unfold kindB; rw [hc7, hc9, hc11]; rfl
           refine wc_skip (go_blk (go_seq (wc_seq ?_)))
           refine xc_regCut [(1, _), (4, _), (34, _), (35, _), (36, _), (41, _), (42, _), (43, _), (73, _), (74, _)] [(1, _), (4, _)] [(168, .p (.bool (!shpT h)))] (by repeat first | exact trivial | refine .intro rfl ?_) (by repeat first | exact trivial | refine .intro rfl ?_) (fun K hK => ?_) ?_
           ·refine x_fa rfl rfl rfl fld37_2 rfl ?_
            refine x_ldL rfl rfl rfl isag27 rfl rfl ?_
            refine x_len rfl rfl rfl (by first | assumption | exact Rd.enc) und27 ?_
            refine x_move rfl rfl rfl ?_
            refine x_bin rfl rfl rfl rfl rfl ?_
            refine x_moveS rfl rfl rfl (fun hg153 => ?_) (fun hg153 => ?_)
            ·refine x_skip rfl rfl ?_
             refine x_skip rfl rfl ?_
             refine x_skip rfl rfl ?_
             refine x_skip rfl rfl ?_
             refine x_skip rfl rfl ?_
             refine x_pickT rfl rfl rfl rfl ?_
             refine x_move rfl rfl rfl ?_
             refine x_skip rfl rfl ?_
             refine x_skip rfl rfl ?_
             refine x_skip rfl rfl ?_
             refine x_skip rfl rfl ?_
             refine x_skip rfl rfl ?_
             refine x_skip rfl rfl ?_
             refine x_skip rfl rfl ?_
             refine x_pickT rfl rfl rfl rfl ?_
             exact x_nil (hK _ _ _ _ (by repeat (first | exact trivial | refine And.intro rfl ?_ | refine And.intro (by exact congrArg (fun b => some (V.p (PV.bool b))) (by simp only [shpT, hkK, hkN]; (try simp only [bne, Bool.not_eq_true', Bool.not_eq_false'] at hg153); (try simp only [bne, Bool.not_eq_true', Bool.not_eq_false'] at hg160); rw [hg153]; (try rw [hg160]); (try rw [hg163]); first | rfl | simp [bne])) ?_)) (by repeat first | exact trivial | refine .intro rfl ?_))
            ·refine x_fa rfl rfl rfl fld37_1 rfl ?_
             refine x_ldL rfl rfl rfl isag35 rfl rfl ?_
             refine x_len rfl rfl rfl (by first | assumption | exact Rd.enc) und35 ?_
             refine x_move rfl rfl rfl ?_
             refine x_bin rfl rfl rfl rfl rfl ?_
             refine x_pickF rfl rfl rfl rfl ?_
             refine x_moveS rfl rfl rfl (fun hg160 => ?_) (fun hg160 => ?_)
             ·refine x_skip rfl rfl ?_
              refine x_skip rfl rfl ?_
              refine x_skip rfl rfl ?_
              refine x_skip rfl rfl ?_
              refine x_skip rfl rfl ?_
              refine x_skip rfl rfl ?_
              refine x_skip rfl rfl ?_
              refine x_pickT rfl rfl rfl rfl ?_
              exact x_nil (hK _ _ _ _ (by repeat (first | exact trivial | refine And.intro rfl ?_ | refine And.intro (by exact congrArg (fun b => some (V.p (PV.bool b))) (by simp only [shpT, hkK, hkN]; (try simp only [bne, Bool.not_eq_true', Bool.not_eq_false'] at hg153); (try simp only [bne, Bool.not_eq_true', Bool.not_eq_false'] at hg160); rw [hg153]; (try rw [hg160]); (try rw [hg163]); first | rfl | simp [bne])) ?_)) (by repeat first | exact trivial | refine .intro rfl ?_))
             ·refine x_fa rfl rfl rfl fld37_3 rfl ?_
              refine x_ldL rfl rfl rfl isag4 rfl rfl ?_
              refine x_moveS rfl rfl rfl (fun hg163 => ?_) (fun hg163 => ?_)
              ·refine x_fa rfl rfl rfl fld37_0 rfl ?_
               refine x_ldL rfl rfl rfl isag3 rfl rfl ?_
               refine x_bin rfl rfl rfl rfl rfl ?_
               refine x_pickT rfl rfl rfl rfl ?_
               refine x_pickF rfl rfl rfl rfl ?_
               exact x_nil (hK _ _ _ _ (by repeat (first | exact trivial | refine And.intro rfl ?_ | refine And.intro (by exact congrArg (fun b => some (V.p (PV.bool b))) (by simp only [shpT, hkK, hkN]; (try simp only [bne, Bool.not_eq_true', Bool.not_eq_false'] at hg153); (try simp only [bne, Bool.not_eq_true', Bool.not_eq_false'] at hg160); rw [hg153]; (try rw [hg160]); (try rw [hg163]); first | rfl | simp [bne])) ?_)) (by repeat first | exact trivial | refine .intro rfl ?_))
              ·refine x_skip rfl rfl ?_
               refine x_skip rfl rfl ?_
               refine x_skip rfl rfl ?_
               refine x_pickF rfl rfl rfl rfl ?_
               refine x_pickF rfl rfl rfl rfl ?_
               exact x_nil (hK _ _ _ _ (by repeat (first | exact trivial | refine And.intro rfl ?_ | refine And.intro (by exact congrArg (fun b => some (V.p (PV.bool b))) (by simp only [shpT, hkK, hkN]; (try simp only [bne, Bool.not_eq_true', Bool.not_eq_false'] at hg153); (try simp only [bne, Bool.not_eq_true', Bool.not_eq_false'] at hg160); rw [hg153]; (try rw [hg160]); (try rw [hg163]); first | rfl | simp [bne])) ?_)) (by repeat first | exact trivial | refine .intro rfl ?_))
           intro b rb
           refine go_seq ?_
           refine xc_cond _ rfl (fun hc12 => ?_) (fun hc12 => ?_)
           ·refine wc_seq (wc_reg fun K hK => ?_)
            refine x_assign rfl rfl rfl ?_
            refine x_nil (hK _ ?_); clear hK K
            refine go_seq (wc_ret (go_blk_ret (go_seq_ret ?_)))
            refine hR2_0 _ _ (by simp) ?_
            refine go_blk_ret (go_seq_ret ?_)
            exact x_end1 (Or.inr rfl) rfl rfl rfl rfl rfl rfl (by rw [rightG_no hm (by have hs : shpT h = false := (by simpa using hc12); unfold rightH; rw [hs, Bool.and_false, Bool.and_false, Bool.and_false])])
           ·refine wc_skip (go_blk (go_seq (wc_reg fun K hK => ?_)))
            refine x_inc rfl rfl rfl rfl (by omega) ?_
            refine x_move rfl rfl rfl ?_
            refine x_nil (hK _ ?_); clear hK K
            exact hR1_0 (j + 1) _ _ _ _ ⟨hlt, leadP_up (p := rightH L.l.length) hr e1 (by have hs : shpT h = true := (by simpa using hc12); unfold rightH; rw [hf1, hf2, hkd, hs]; rfl)⟩ (by omega) (by repeat first | exact trivial | refine .intro rfl ?_) (by repeat first | exact trivial | refine .intro rfl ?_)
     ·refine wc_exit ?_
      refine go_seq_exit ?_
      refine hR2_0 _ _ (by simp) ?_
      refine go_blk_exit (go_seq (wc_seq (wc_reg fun K hK => ?_)))
      refine x_assign rfl rfl rfl ?_
      refine x_nil (hK _ ?_); clear hK K
      refine go_seq (wc_ret ?_)
      exact x_end1 (Or.inr rfl) rfl rfl rfl rfl rfl rfl (by congr 2; have e : L.l.all (rightH L.l.length) = true := all_lead fun q hq => hr q (by simp at hc1; omega); unfold rightG; rw [e, Bool.and_true, decide_eq_false hz, decide_eq_false (p := 4096 < L.l.length) (by simp at hg20; omega), decide_eq_false (p := root < 0) (by simp at hg25; omega), decide_eq_false (p := (L.l.length : Int) ≤ root) (by simp at hc0; omega)]; rfl)
end Go.Vm
set_option linter.unusedVariables false
namespace Go.Vm
open Go Go.Proofs
def varOk (l : List Int) (i : Nat) : Bool := decide (0 ≤ l.getD i 0) && (i == 0 || decide (l.getD (i - 1) 0 < l.getD i 0))
def aloneB (s : StateP) : Bool := s.heads.l.length == 1 && s.vars.l.length == 0
def aloneOk (s : StateP) (k : Int) : Bool := !(k == 5 && !(s.plus && aloneB s)) && !(k == 6 && !(!s.plus && aloneB s))
def kidR (L : List StateP) (pl : Bool) (kind : Int) (i : Nat) (k : Int) : Bool :=
 decide (0 ≤ k) && decide (k < L.length) && !((L[k.toNat]?.map (·.plus)).getD false == (pl == (kind == 7 && i == 0)))
def flat (h : Head) : Head := ⟨h.kind, h.names, Sl.of (List.replicate h.kids.l.length 0), h.op⟩
def riseK (l : List Head) (i : Nat) : Bool := i == 0 || decide ((l[i - 1]?.map (·.kind)).getD 0 < (l[i]?.map (·.kind)).getD 0)
def headR (L : List StateP) (s : StateP) (h : Head) : Bool :=
 aloneOk s h.kind && (((List.range h.kids.l.length).all fun i => kidR L s.plus h.kind i (h.kids.l.getD i 0)) && rightG [flat h] 0)
def headIR (L : List StateP) (s : StateP) (i : Nat) : Bool := riseK s.heads.l i && ((s.heads.l[i]?.map (headR L s)).getD false)
def rightS (L : List StateP) (s : StateP) : Bool :=
 (List.range s.vars.l.length).all (varOk s.vars.l) && (List.range s.heads.l.length).all (headIR L s)
def rightA (L : List StateP) (root : Int) : Bool :=
 !(decide (L.length = 0) || (decide (4096 < L.length) || (decide (root < 0) || decide ((L.length : Int) ≤ root)))) && ((L[root.toNat]?.map (·.plus)).getD false && L.all (rightS L))
theorem rightA_no {L : List StateP} {root : Int} {s : StateP} (hm : s ∈ L) (hf : rightS L s = false) : rightA L root = false := by
 unfold rightA; rw [all_not hm hf, Bool.and_false, Bool.and_false]
theorem headIR_no {L : List StateP} {s : StateP} {i : Nat} (hi : i < s.heads.l.length) (h : headIR L s i = false) : rightS L s = false := by
 unfold rightS; rw [rng_no hi h, Bool.and_false]
theorem headIR_at {L : List StateP} {s : StateP} {i : Nat} {h : Head} (e : s.heads.l[i]? = some h) : headIR L s i = (riseK s.heads.l i && headR L s h) := by
 unfold headIR; rw [e]; rfl
theorem accR_succ {T j : Nat} {r : List V} : accW T 1 (List.replicate (j + 1) r) = .sl (List.replicate j r ++ [r]) (.own T (List.replicate j r ++ [r]).length 1) := by
 rw [List.replicate_succ', accW_ne (by simp)]
theorem rows0 {m : Nat} : (List.replicate m [V.p (.int .i64 0)]).all (rowOk 1) = true := by
 rw [List.all_eq_true]; intro r hr; obtain ⟨_, rfl⟩ := List.mem_replicate.1 hr; rfl
theorem one_acc0 {T m : Nat} : one (accW T 1 (List.replicate m [V.p (.int .i64 0)])) = true := by cases m <;> rfl
def headRow (h : Head) (vk : V) : List V := [.p (.int .i64 h.kind), .p (h.names.enc eStr), vk, .p (.bool h.op)]
theorem headRow_one {h : Head} {vk : V} (e : one vk = true) : (headRow h vk).all one = true := by
 simp only [headRow, List.all_cons, List.all_nil, e]; rfl
theorem fillH {z : List V} {h : Head} {vk : V} (e1 : one vk = true) (hz : z.length = 4) : fillIn (fun i => some (i * 4, 4)) (List.replicate 1 z).flatten [(0, .agg (List.take 4 (List.drop 0 (headRow h vk))))] = some (headRow h vk) := by
 have e : cellsOf (.agg (List.take 4 (List.drop 0 (headRow h vk)))) = headRow h vk := rfl
 unfold fillIn
 simp only [e, Nat.zero_mul]
 rw [if_neg (by simp [headRow]), if_pos (headRow_one e1)]
 have e2 : put? (List.replicate 1 z).flatten 0 (headRow h vk) = some (headRow h vk) := by
  unfold put?
  rw [if_pos (by simp [headRow, hz])]
  simp [headRow, hz]
 rw [e2]
 rfl
theorem fz_head {h : Head} {T : Nat} {k : SK} : FzA [.agg [.sl [headRow h (accW T 1 (List.replicate h.kids.l.length [V.p (.int .i64 0)]))] k, .p (.int .i64 0)]] [.agg [.p ((Sl.of [flat h]).enc Head.enc), .p (.int .i64 0)]] := by
 refine .cons (.agg (.cons (.sealed (DpR.dp (.cons ?_ .nil))) (.cons .same .nil))) .nil
 show DpL [_, _, _, _] [_, _, _, _]
 refine .cons .p (.cons .p (.cons ?_ (.cons .p .nil)))
 have := dp_accV (f := eInt) (T := T) (n := 1) (xs := List.replicate h.kids.l.length 0)
 rw [List.map_replicate] at this
 exact this
def tsA (ts : List Nat) (j : Nat) : List Nat := if j = 0 then ts else ts ++ [j]
theorem accS_a (ts : List Nat) (j : Nat) : accS (tsA ts j) ts.length j 1 = some (tsA ts (j + 1)) := by
 cases j with
 | zero => simp [accS, tsA]
 | succ j => simp [accS, tsA]
end Go.Vm
