/- Part 15 of the texts that the claim leans on: a judgement on the program over plain values, its soundness, and contracts of functions. -/
import Derived.Test.YtmknnanbmkmnjaaGreatDoorW14
set_option linter.unusedVariables false
set_option linter.unusedSimpArgs false
set_option linter.unusedVariables false
namespace Go.Vm
open Go Go.Proofs
attribute [local irreducible] wpL
set_option maxRecDepth 20000 in
theorem rightA_ok (L : Sl StateP) (root : Int) (hL : L.l.length < 2 ^ 60) (hs : ∀ s, s ∈ L.l → s.ok) : Pure En 11 [.agg ((AutoP.enc L root).map .p)] (.p (.bool (rightA L.l root))) := by
 refine pure_walk [(0, .agg ((AutoP.enc L root).map .p))] Tryz.func11 rfl rfl rfl fun g hwo hwt => ?_
 show Wc En _ (Tryz.f11.body.getD .skip) [] (Sx 191 _ _ _ _ _ _)
 unfold Tryz.f11
 simp only [Option.getD_some]
 rw [← G.ext_nil g]
 refine wc_seq (wc_reg fun K hK => ?_)
 refine x_box rfl rfl rfl rfl rfl ?_
 refine x_assign rfl rfl rfl ?_
 refine x_nil (hK _ ?_); clear hK K
 refine go_seq (wc_seq (wc_seq (wc_reg fun K hK => ?_)))
 refine x_fa rfl rfl rfl fld24_0 rfl ?_
 refine x_ldL rfl rfl rfl isag22 rfl rfl ?_
 refine x_len rfl rfl rfl (by first | assumption | exact Rd.enc) und22 ?_
 refine x_bin rfl rfl rfl rfl rfl ?_
 refine x_moveS rfl rfl rfl (fun hg18 => ?_) (fun hg18 => ?_)
 ·have hz : L.l.length = 0 := by simp only [beq_iff_eq] at hg18; omega
  refine x_skip rfl rfl ?_
  refine x_skip rfl rfl ?_
  refine x_skip rfl rfl ?_
  refine x_skip rfl rfl ?_
  refine x_pickT rfl rfl rfl rfl ?_
  refine x_move rfl rfl rfl ?_
  refine x_skip rfl rfl ?_
  refine x_skip rfl rfl ?_
  refine x_skip rfl rfl ?_
  refine x_pickT rfl rfl rfl rfl ?_
  refine x_move rfl rfl rfl ?_
  refine x_skip rfl rfl ?_
  refine x_skip rfl rfl ?_
  refine x_skip rfl rfl ?_
  refine x_skip rfl rfl ?_
  refine x_skip rfl rfl ?_
  refine x_skip rfl rfl ?_
  refine x_pickT rfl rfl rfl rfl ?_
  refine x_move rfl rfl rfl ?_
  refine x_skip rfl rfl ?_
  refine x_skip rfl rfl ?_
  refine x_skip rfl rfl ?_
  refine x_skip rfl rfl ?_
  refine x_skip rfl rfl ?_
  refine x_skip rfl rfl ?_
  refine x_skip rfl rfl ?_
  refine x_skip rfl rfl ?_
  refine x_pickT rfl rfl rfl rfl ?_
  refine x_nil (hK _ ?_); clear hK K
  refine go_seq ?_
  refine xc_cond true rfl (fun _ => ?_) (fun h => by cases h)
  refine wc_seq (wc_reg fun K hK => ?_)
  refine x_assign rfl rfl rfl ?_
  refine x_nil (hK _ ?_); clear hK K
  refine go_seq (wc_ret (go_seq_ret ?_))
  exact x_end1 (Or.inr rfl) rfl rfl rfl rfl rfl rfl (by congr 2; unfold rightA; rw [decide_eq_true hz]; rfl)
 ·have hz : ¬ L.l.length = 0 := by simp only [beq_eq_false_iff_ne, ne_eq] at hg18; omega
  refine x_fa rfl rfl rfl fld24_0 rfl ?_
  refine x_ldL rfl rfl rfl isag22 rfl rfl ?_
  refine x_len rfl rfl rfl (by first | assumption | exact Rd.enc) und22 ?_
  refine x_bin rfl rfl rfl rfl rfl ?_
  refine x_pickF rfl rfl rfl rfl ?_
  refine x_moveS rfl rfl rfl (fun hg24 => ?_) (fun hg24 => ?_)
  ·refine x_skip rfl rfl ?_
   refine x_skip rfl rfl ?_
   refine x_skip rfl rfl ?_
   refine x_pickT rfl rfl rfl rfl ?_
   refine x_move rfl rfl rfl ?_
   refine x_skip rfl rfl ?_
   refine x_skip rfl rfl ?_
   refine x_skip rfl rfl ?_
   refine x_skip rfl rfl ?_
   refine x_skip rfl rfl ?_
   refine x_skip rfl rfl ?_
   refine x_pickT rfl rfl rfl rfl ?_
   refine x_move rfl rfl rfl ?_
   refine x_skip rfl rfl ?_
   refine x_skip rfl rfl ?_
   refine x_skip rfl rfl ?_
   refine x_skip rfl rfl ?_
   refine x_skip rfl rfl ?_
   refine x_skip rfl rfl ?_
   refine x_skip rfl rfl ?_
   refine x_skip rfl rfl ?_
   refine x_pickT rfl rfl rfl rfl ?_
   refine x_nil (hK _ ?_); clear hK K
   refine go_seq ?_
   refine xc_cond true rfl (fun _ => ?_) (fun h => by cases h)
   refine wc_seq (wc_reg fun K hK => ?_)
   refine x_assign rfl rfl rfl ?_
   refine x_nil (hK _ ?_); clear hK K
   refine go_seq (wc_ret (go_seq_ret ?_))
   exact x_end1 (Or.inr rfl) rfl rfl rfl rfl rfl rfl (by congr 2; unfold rightA; rw [decide_eq_true (p := 4096 < L.l.length) (by simp at hg24; omega)]; simp)
  ·refine x_fa rfl rfl rfl fld24_1 rfl ?_
   refine x_ldL rfl rfl rfl isag3 rfl rfl ?_
   refine x_bin rfl rfl rfl rfl rfl ?_
   refine x_pickF rfl rfl rfl rfl ?_
   refine x_moveS rfl rfl rfl (fun hg29 => ?_) (fun hg29 => ?_)
   ·refine x_skip rfl rfl ?_
    refine x_skip rfl rfl ?_
    refine x_skip rfl rfl ?_
    refine x_skip rfl rfl ?_
    refine x_skip rfl rfl ?_
    refine x_skip rfl rfl ?_
    refine x_pickT rfl rfl rfl rfl ?_
    refine x_move rfl rfl rfl ?_
    refine x_skip rfl rfl ?_
    refine x_skip rfl rfl ?_
    refine x_skip rfl rfl ?_
    refine x_skip rfl rfl ?_
    refine x_skip rfl rfl ?_
    refine x_skip rfl rfl ?_
    refine x_skip rfl rfl ?_
    refine x_skip rfl rfl ?_
    refine x_pickT rfl rfl rfl rfl ?_
    refine x_nil (hK _ ?_); clear hK K
    refine go_seq ?_
    refine xc_cond true rfl (fun _ => ?_) (fun h => by cases h)
    refine wc_seq (wc_reg fun K hK => ?_)
    refine x_assign rfl rfl rfl ?_
    refine x_nil (hK _ ?_); clear hK K
    refine go_seq (wc_ret (go_seq_ret ?_))
    exact x_end1 (Or.inr rfl) rfl rfl rfl rfl rfl rfl (by congr 2; unfold rightA; rw [decide_eq_true (p := root < 0) (by simp at hg29; omega)]; simp)
   ·refine x_fa rfl rfl rfl fld24_1 rfl ?_
    refine x_ldL rfl rfl rfl isag3 rfl rfl ?_
    refine x_fa rfl rfl rfl fld24_0 rfl ?_
    refine x_ldL rfl rfl rfl isag22 rfl rfl ?_
    refine x_len rfl rfl rfl (by first | assumption | exact Rd.enc) und22 ?_
    refine x_bin rfl rfl rfl rfl rfl ?_
    refine x_pickF rfl rfl rfl rfl ?_
    refine x_moveS rfl rfl rfl (fun hg37 => ?_) (fun hg37 => ?_)
    ·refine x_skip rfl rfl ?_
     refine x_skip rfl rfl ?_
     refine x_skip rfl rfl ?_
     refine x_skip rfl rfl ?_
     refine x_skip rfl rfl ?_
     refine x_skip rfl rfl ?_
     refine x_skip rfl rfl ?_
     refine x_skip rfl rfl ?_
     refine x_pickT rfl rfl rfl rfl ?_
     refine x_nil (hK _ ?_); clear hK K
     refine go_seq ?_
     refine xc_cond true rfl (fun _ => ?_) (fun h => by cases h)
     refine wc_seq (wc_reg fun K hK => ?_)
     refine x_assign rfl rfl rfl ?_
     refine x_nil (hK _ ?_); clear hK K
     refine go_seq (wc_ret (go_seq_ret ?_))
     exact x_end1 (Or.inr rfl) rfl rfl rfl rfl rfl rfl (by congr 2; unfold rightA; rw [decide_eq_true (p := (L.l.length : Int) ≤ root) (by simp at hg37; omega)]; simp)
    ·have h0 : 0 ≤ root := by simp at hg29; omega
     have h2 : root.toNat < L.l.length := by simp at hg37; omega
     obtain ⟨st, e2⟩ : ∃ st, L.l[root.toNat]? = some st := ⟨_, List.getElem?_eq_getElem h2⟩
     refine x_fa rfl rfl rfl fld24_0 rfl ?_
     refine x_ldL rfl rfl rfl isag22 rfl rfl ?_
     refine x_fa rfl rfl rfl fld24_1 rfl ?_
     refine x_ldL rfl rfl rfl isag3 rfl rfl ?_
     refine x_iaI rfl rfl rfl Rd.enc rfl und22 sz34 rfl h0 e2 rfl ?_
     refine x_fa rfl rfl rfl fld34_0 rfl ?_
     refine x_ldR rfl rfl rfl isag4 rfl ?_
     refine x_not rfl rfl rfl ?_
     refine x_pickF rfl rfl rfl rfl ?_
     refine x_nil (hK _ ?_); clear hK K
     refine go_seq ?_
     refine xc_cond _ rfl (fun hc0 => ?_) (fun hc0 => ?_)
     ·refine wc_seq (wc_reg fun K hK => ?_)
      refine x_assign rfl rfl rfl ?_
      refine x_nil (hK _ ?_); clear hK K
      refine go_seq (wc_ret (go_seq_ret ?_))
      exact x_end1 (Or.inr rfl) rfl rfl rfl rfl rfl rfl (by congr 2; unfold rightA; have : (L.l[root.toNat]?.map (·.plus)).getD false = false := (by rw [e2]; simpa using hc0); rw [this, Bool.false_and, Bool.and_false])
     ·have hpl : (L.l[root.toNat]?.map (·.plus)).getD false = true := by rw [e2]; simpa using hc0
      refine wc_skip (go_seq (wc_seq (wc_seq (wc_reg fun K hK => ?_))))
      refine x_fa rfl rfl rfl fld24_0 rfl ?_
      refine x_ldL rfl rfl rfl isag22 rfl rfl ?_
      refine x_len rfl rfl rfl (by first | assumption | exact Rd.enc) und22 ?_
      refine x_move rfl rfl rfl ?_
      refine x_nil (hK _ ?_); clear hK K
      refine go_seq (wc_block ?_)
      refine xc_loopG [(1, _), (48, _), (49, _)] [(1, _)] (fun x : Nat × List Nat => [(50, .p (.int .i64 x.1))]) (fun x : Nat × List Nat => []) (fun x : Nat × List Nat => g.ext [] x.2) (fun x : Nat × List Nat => x.1 ≤ L.l.length ∧ ∀ i, i < x.1 → ∃ c, L.l[i]? = some c ∧ rightS L.l c = true) (fun x : Nat × List Nat => L.l.length - x.1) (0, []) (by repeat first | exact trivial | refine .intro rfl ?_) (by repeat first | exact trivial | refine .intro rfl ?_) rfl ⟨Nat.zero_le _, fun i hi => absurd hi (Nat.not_lt_zero _)⟩ ?_
      rintro ⟨j, ts⟩ R0 hR1_0 hR2_0 ⟨hj, hr⟩ b rb
      dsimp only at hj hr ⊢
      refine wc_seq (wc_reg fun K hK => ?_)
      refine x_bin rfl rfl rfl rfl rfl ?_
      refine x_nil (hK _ ?_); clear hK K
      refine go_seq (wc_seq ?_)
      refine xc_cond _ rfl (fun hc1 => ?_) (fun hc1 => ?_)
      ·have hlt : j < L.l.length := by simp at hc1; omega
       obtain ⟨s, e1⟩ : ∃ s, L.l[j]? = some s := ⟨_, List.getElem?_eq_getElem hlt⟩
       have hm : s ∈ L.l := List.mem_of_getElem? e1
       have hk1 := (hs s hm).vars
       have hk2 := (hs s hm).heads
       refine wc_skip (go_seq (wc_seq (wc_block (wc_seq (wc_reg fun K hK => ?_)))))
       refine x_ia rfl rfl rfl (by first | assumption | exact Rd.enc) rfl und22 sz34 rfl (by assumption) rfl ?_
       refine x_ldRA rfl rfl rfl isag34 sz34 rfl ?_
       refine x_alloc rfl rfl rfl zero34 rfl ?_
       refine x_stL rfl rfl rfl sz34 rfl rfl rfl rfl ?_
       refine x_nil (hK _ ?_); clear hK K
       refine go_seq (wc_seq (wc_seq (wc_reg fun K hK => ?_)))
       refine x_fa rfl rfl rfl fld34_2 rfl ?_
       refine x_ldL rfl rfl rfl isag27 rfl rfl ?_
       refine x_len rfl rfl rfl (by first | assumption | exact Rd.enc) und27 ?_
       refine x_move rfl rfl rfl ?_
       refine x_nil (hK _ ?_); clear hK K
       refine go_seq (wc_block ?_)
       refine xc_loop [(1, _), (4, _), (48, _), (49, _), (50, _), (55, _), (56, _)] [(1, _), (4, _)] (fun i : Nat => [(57, .p (.int .i64 i))]) (fun i : Nat => i ≤ s.vars.l.length ∧ ∀ k, k < i → varOk s.vars.l k = true) (fun i : Nat => s.vars.l.length - i) 0 (by repeat first | exact trivial | refine .intro rfl ?_) (by repeat first | exact trivial | refine .intro rfl ?_) ⟨Nat.zero_le _, fun i hi => by omega⟩ ?_
       rintro i R1 hR1_1 hR2_1 ⟨hi, hr2⟩ b rb
       refine wc_seq (wc_reg fun K hK => ?_)
       refine x_bin rfl rfl rfl rfl rfl ?_
       refine x_nil (hK _ ?_); clear hK K
       refine go_seq (wc_seq ?_)
       refine xc_cond _ rfl (fun hc2 => ?_) (fun hc2 => ?_)
       ·have hlt2 : i < s.vars.l.length := by simp at hc2; omega
        obtain ⟨v, e2⟩ : ∃ v, s.vars.l[i]? = some v := ⟨_, List.getElem?_eq_getElem hlt2⟩
        have e3 : s.vars.l.getD i 0 = v := by rw [List.getD_eq_getElem?_getD, e2]; rfl
        refine wc_skip (go_seq (wc_seq (wc_block (wc_seq (wc_reg fun K hK => ?_)))))
        refine x_move rfl rfl rfl ?_
        refine x_ia rfl rfl rfl (by first | assumption | exact Rd.enc) rfl und27 sz3 rfl (by assumption) rfl ?_
        refine x_ldR rfl rfl rfl isag3 rfl ?_
        refine x_assign rfl rfl rfl ?_
        refine x_assign rfl rfl rfl ?_
        refine x_nil (hK _ ?_); clear hK K
        refine go_seq (wc_seq ?_)
        refine xc_regCut [(1, _), (4, _), (48, _), (49, _), (50, _), (55, _), (56, _), (57, _)] [(1, _), (4, _)] [(77, .p (.bool (!varOk s.vars.l i)))] (by repeat first | exact trivial | refine .intro rfl ?_) (by repeat first | exact trivial | refine .intro rfl ?_) (fun K hK => ?_) ?_
        ·refine x_move rfl rfl rfl ?_
         refine x_bin rfl rfl rfl rfl rfl ?_
         refine x_moveS rfl rfl rfl (fun hg64 => ?_) (fun hg64 => ?_)
         ·refine x_skip rfl rfl ?_
          refine x_skip rfl rfl ?_
          refine x_skip rfl rfl ?_
          refine x_skip rfl rfl ?_
          refine x_skip rfl rfl ?_
          refine x_skip rfl rfl ?_
          refine x_skip rfl rfl ?_
          refine x_skip rfl rfl ?_
          refine x_skip rfl rfl ?_
          refine x_skip rfl rfl ?_
          refine x_skip rfl rfl ?_
          refine x_skip rfl rfl ?_
          refine x_pickT rfl rfl rfl rfl ?_
          exact x_nil (hK _ _ _ _ (by repeat (first | exact trivial | refine And.intro rfl ?_ | refine And.intro (by exact congrArg (fun b => some (V.p (PV.bool b))) (by first | (simp only [varOk, e3]; rw [decide_eq_false (p := 0 ≤ v) (by simp only [decide_eq_true_eq] at hg64; omega)]; rfl) | (simp only [varOk, e3, e6, e7]; rw [decide_eq_true (p := 0 ≤ v) (by simp only [decide_eq_false_iff_not] at hg64; omega)]; rw [Bool.eq_iff_iff]; simp; done) | (simp only [varOk, e3, e7]; rw [decide_eq_true (p := 0 ≤ v) (by simp only [decide_eq_false_iff_not] at hg64; omega)]; rfl))) ?_)) (by repeat first | exact trivial | refine .intro rfl ?_))
         ·refine x_move rfl rfl rfl ?_
          refine x_bin rfl rfl rfl rfl rfl ?_
          refine x_moveS rfl rfl rfl (fun hg67 => ?_) (fun hg67 => ?_)
          ·have hi0 : 0 < i := by simp only [decide_eq_true_eq] at hg67; omega
           obtain ⟨v1, e4⟩ : ∃ v1, s.vars.l[i - 1]? = some v1 := ⟨_, List.getElem?_eq_getElem (by omega)⟩
           have e5 : s.vars.l[((i : Int) - 1).toNat]? = some v1 := by rw [show ((i : Int) - 1).toNat = i - 1 by omega]; exact e4
           have e6 : s.vars.l.getD (i - 1) 0 = v1 := by rw [List.getD_eq_getElem?_getD, e4]; rfl
           have e7 : (i == 0) = false := by simp; omega
           refine x_fa rfl rfl rfl fld34_2 rfl ?_
           refine x_ldL rfl rfl rfl isag27 rfl rfl ?_
           refine x_move rfl rfl rfl ?_
           refine x_sub rfl rfl rfl rfl (by omega) (by omega) ?_
           refine x_iaI rfl rfl rfl Rd.enc rfl und27 sz3 rfl (by omega) e5 rfl ?_
           refine x_ldR rfl rfl rfl isag3 rfl ?_
           refine x_move rfl rfl rfl ?_
           refine x_bin rfl rfl rfl rfl rfl ?_
           refine x_pickT rfl rfl rfl rfl ?_
           refine x_pickF rfl rfl rfl rfl ?_
           exact x_nil (hK _ _ _ _ (by repeat (first | exact trivial | refine And.intro rfl ?_ | refine And.intro (by exact congrArg (fun b => some (V.p (PV.bool b))) (by first | (simp only [varOk, e3]; rw [decide_eq_false (p := 0 ≤ v) (by simp only [decide_eq_true_eq] at hg64; omega)]; rfl) | (simp only [varOk, e3, e6, e7]; rw [decide_eq_true (p := 0 ≤ v) (by simp only [decide_eq_false_iff_not] at hg64; omega)]; rw [Bool.eq_iff_iff]; simp; done) | (simp only [varOk, e3, e7]; rw [decide_eq_true (p := 0 ≤ v) (by simp only [decide_eq_false_iff_not] at hg64; omega)]; rfl))) ?_)) (by repeat first | exact trivial | refine .intro rfl ?_))
          ·have e7 : (i == 0) = true := by simp only [decide_eq_false_iff_not] at hg67; simp; omega
           refine x_skip rfl rfl ?_
           refine x_skip rfl rfl ?_
           refine x_skip rfl rfl ?_
           refine x_skip rfl rfl ?_
           refine x_skip rfl rfl ?_
           refine x_skip rfl rfl ?_
           refine x_skip rfl rfl ?_
           refine x_skip rfl rfl ?_
           refine x_pickF rfl rfl rfl rfl ?_
           refine x_pickF rfl rfl rfl rfl ?_
           exact x_nil (hK _ _ _ _ (by repeat (first | exact trivial | refine And.intro rfl ?_ | refine And.intro (by exact congrArg (fun b => some (V.p (PV.bool b))) (by first | (simp only [varOk, e3]; rw [decide_eq_false (p := 0 ≤ v) (by simp only [decide_eq_true_eq] at hg64; omega)]; rfl) | (simp only [varOk, e3, e6, e7]; rw [decide_eq_true (p := 0 ≤ v) (by simp only [decide_eq_false_iff_not] at hg64; omega)]; rw [Bool.eq_iff_iff]; simp; done) | (simp only [varOk, e3, e7]; rw [decide_eq_true (p := 0 ≤ v) (by simp only [decide_eq_false_iff_not] at hg64; omega)]; rfl))) ?_)) (by repeat first | exact trivial | refine .intro rfl ?_))
        intro b rb
        refine go_seq ?_
        refine xc_cond _ rfl (fun hc3 => ?_) (fun hc3 => ?_)
        ·have hko : varOk s.vars.l i = false := by simpa using hc3
         refine wc_seq (wc_reg fun K hK => ?_)
         refine x_assign rfl rfl rfl ?_
         refine x_nil (hK _ ?_); clear hK K
         refine go_seq (wc_ret (go_blk_ret (go_seq_ret ?_)))
         refine hR2_1 _ _ (by simp) ?_
         refine go_blk_ret (go_seq_ret (go_blk_ret (go_seq_ret ?_)))
         refine hR2_0 _ _ (by simp) ?_
         refine go_blk_ret (go_seq_ret ?_)
         exact x_end1 (Or.inr rfl) rfl rfl rfl rfl rfl rfl (by rw [rightA_no hm (by unfold rightS; rw [rng_no hlt2 hko, Bool.false_and])])
        ·have hko : varOk s.vars.l i = true := by simpa using hc3
         refine wc_skip (go_blk (go_seq (wc_reg fun K hK => ?_)))
         refine x_inc rfl rfl rfl rfl (by omega) ?_
         refine x_move rfl rfl rfl ?_
         refine x_nil (hK _ ?_); clear hK K
         exact hR1_1 (i + 1) _ _ _ _ ⟨hlt2, fun q hq => by rcases Nat.lt_succ_iff_lt_or_eq.1 hq with hq | rfl; (exact hr2 q hq); exact hko⟩ (by omega) (by repeat first | exact trivial | refine .intro rfl ?_) (by repeat first | exact trivial | refine .intro rfl ?_)
       ·have hf1 : (List.range s.vars.l.length).all (varOk s.vars.l) = true := rng_yes fun q hq => hr2 q (by simp at hc2; omega)
        refine wc_exit ?_
        refine go_seq_exit ?_
        refine hR2_1 _ _ (by simp) ?_
        refine go_blk_exit (go_seq (wc_seq (wc_reg fun K hK => ?_)))
        refine x_fa rfl rfl rfl fld34_1 rfl ?_
        refine x_ldL rfl rfl rfl isag32 rfl rfl ?_
        refine x_len rfl rfl rfl (by first | assumption | exact Rd.enc) und32 ?_
        refine x_move rfl rfl rfl ?_
        refine x_nil (hK _ ?_); clear hK K
        refine go_seq (wc_block ?_)
        refine xc_loopG [(1, _), (4, _), (48, _), (49, _), (50, _), (55, _), (56, _), (57, _), (80, _), (81, _)] [(1, _), (4, _)] (fun x : Nat × List Nat => [(82, .p (.int .i64 x.1))]) (fun x : Nat × List Nat => []) (fun x : Nat × List Nat => g.ext [] x.2) (fun x : Nat × List Nat => x.1 ≤ s.heads.l.length ∧ ∀ k, k < x.1 → headIR L.l s k = true) (fun x : Nat × List Nat => s.heads.l.length - x.1) (0, ts) (by repeat first | exact trivial | refine .intro rfl ?_) (by repeat first | exact trivial | refine .intro rfl ?_) rfl ⟨Nat.zero_le _, fun i hi => absurd hi (Nat.not_lt_zero _)⟩ ?_
        rintro ⟨i, ts2⟩ R2 hR1_2 hR2_2 ⟨hi2, hr3⟩ b rb
        dsimp only at hi2 hr3 ⊢
        refine wc_seq (wc_reg fun K hK => ?_)
        refine x_bin rfl rfl rfl rfl rfl ?_
        refine x_nil (hK _ ?_); clear hK K
        refine go_seq (wc_seq ?_)
        refine xc_cond _ rfl (fun hc4 => ?_) (fun hc4 => ?_)
        ·have hlt3 : i < s.heads.l.length := by simp at hc4; omega
         obtain ⟨h, eh⟩ : ∃ h, s.heads.l[i]? = some h := ⟨_, List.getElem?_eq_getElem hlt3⟩
         have hmh : h ∈ s.heads.l := List.mem_of_getElem? eh
         have hgd := (hs s hm).each h hmh
         have hkk := hgd.kids
         refine wc_skip (go_seq (wc_seq (wc_block (wc_seq (wc_reg fun K hK => ?_)))))
         refine x_move rfl rfl rfl ?_
         refine x_ia rfl rfl rfl (by first | assumption | exact Rd.enc) rfl und32 sz37 rfl (by assumption) rfl ?_
         refine x_ldRA rfl rfl rfl isag37 sz37 rfl ?_
         refine x_alloc rfl rfl rfl zero37 rfl ?_
         refine x_assign rfl rfl rfl ?_
         refine x_stL rfl rfl rfl sz37 rfl rfl rfl rfl ?_
         refine x_nil (hK _ ?_); clear hK K
         refine go_seq (wc_seq (wc_seq ?_))
         refine xc_drwCut [0, 1, 2, 3, 4, 5, 6, 7, 8, 9, 10, 11, 12, 13] mixed (by kernel_rfl) [(1, _), (4, _), (8, _), (48, _), (49, _), (50, _), (55, _), (56, _), (57, _), (80, _), (81, _), (82, _)] [(1, _), (4, _), (8, _)] [(100, .p (.bool (!riseK s.heads.l i)))] (by repeat first | exact trivial | refine .intro rfl ?_) (by repeat first | exact trivial | refine .intro rfl ?_) (fun K hK => ?_) ?_
         ·refine x_move rfl rfl rfl ?_
          refine x_bin rfl rfl rfl rfl rfl ?_
          refine x_moveS rfl rfl rfl (fun hg89 => ?_) (fun hg89 => ?_)
          ·have hi0 : 0 < i := by simp only [decide_eq_true_eq] at hg89; omega
           obtain ⟨h1, e4⟩ : ∃ h1, s.heads.l[i - 1]? = some h1 := ⟨_, List.getElem?_eq_getElem (by omega)⟩
           have e5 : s.heads.l[((i : Int) - 1).toNat]? = some h1 := by rw [show ((i : Int) - 1).toNat = i - 1 by omega]; exact e4
           have e7 : (i == 0) = false := by simp; omega
           refine x_fa rfl rfl rfl fld34_1 rfl ?_
           refine x_ldL rfl rfl rfl isag32 rfl rfl ?_
           refine x_move rfl rfl rfl ?_
           refine x_sub rfl rfl rfl rfl (by omega) (by omega) ?_
           refine x_iaI rfl rfl rfl Rd.enc rfl und32 sz37 rfl (by omega) e5 rfl ?_
           refine x_fa rfl rfl rfl fld37_0 rfl ?_
           refine x_ldR rfl rfl rfl isag3 rfl ?_
           refine x_fa rfl rfl rfl fld37_0 rfl ?_
           refine x_ldL rfl rfl rfl isag3 rfl rfl ?_
           refine x_bin rfl rfl rfl rfl rfl ?_
           refine x_pickT rfl rfl rfl rfl ?_
           exact x_nil (hK _ _ _ _ (by repeat (first | exact trivial | refine And.intro rfl ?_ | refine And.intro (by exact congrArg (fun b => some (V.p (PV.bool b))) (by first | (simp only [riseK, e4, eh, e7, Option.map_some, Option.getD_some, Bool.false_or]; rw [Bool.eq_iff_iff]; simp; done) | (simp only [riseK, e7]; rfl))) ?_)) (by repeat first | exact trivial | refine .intro rfl ?_))
          ·have e7 : (i == 0) = true := by simp only [decide_eq_false_iff_not] at hg89; simp; omega
           refine x_skip rfl rfl ?_
           refine x_skip rfl rfl ?_
           refine x_skip rfl rfl ?_
           refine x_skip rfl rfl ?_
           refine x_skip rfl rfl ?_
           refine x_skip rfl rfl ?_
           refine x_skip rfl rfl ?_
           refine x_skip rfl rfl ?_
           refine x_skip rfl rfl ?_
           refine x_skip rfl rfl ?_
           refine x_pickF rfl rfl rfl rfl ?_
           exact x_nil (hK _ _ _ _ (by repeat (first | exact trivial | refine And.intro rfl ?_ | refine And.intro (by exact congrArg (fun b => some (V.p (PV.bool b))) (by first | (simp only [riseK, e4, eh, e7, Option.map_some, Option.getD_some, Bool.false_or]; rw [Bool.eq_iff_iff]; simp; done) | (simp only [riseK, e7]; rfl))) ?_)) (by repeat first | exact trivial | refine .intro rfl ?_))
         intro b rb
         refine go_seq ?_
         refine xc_cond _ rfl (fun hc5 => ?_) (fun hc5 => ?_)
         ·have hrk : riseK s.heads.l i = false := by simpa using hc5
          refine wc_seq (wc_reg fun K hK => ?_)
          refine x_assign rfl rfl rfl ?_
          refine x_nil (hK _ ?_); clear hK K
          refine go_seq (wc_ret (go_seq_ret (go_blk_ret (go_seq_ret ?_))))
          refine hR2_2 _ _ (by simp) ?_
          refine go_blk_ret (go_blk_ret (go_seq_ret ?_))
          refine hR2_0 _ _ (by simp) ?_
          refine go_blk_ret (go_seq_ret ?_)
          exact x_end1 (Or.inr rfl) rfl rfl rfl rfl rfl rfl (by rw [rightA_no hm (headIR_no hlt3 (by rw [headIR_at eh, hrk, Bool.false_and]))])
         ·have hrk : riseK s.heads.l i = true := by simpa using hc5
          refine wc_skip (go_seq (wc_seq ?_))
          refine xc_regCut [(1, _), (4, _), (8, _), (48, _), (49, _), (50, _), (55, _), (56, _), (57, _), (80, _), (81, _), (82, _)] [(1, _), (4, _), (8, _)] [(9, .p (.bool (aloneB s)))] (by repeat first | exact trivial | refine .intro rfl ?_) (by repeat first | exact trivial | refine .intro rfl ?_) (fun K hK => ?_) ?_
          ·refine x_fa rfl rfl rfl fld34_1 rfl ?_
           refine x_ldL rfl rfl rfl isag32 rfl rfl ?_
           refine x_len rfl rfl rfl (by first | assumption | exact Rd.enc) und32 ?_
           refine x_bin rfl rfl rfl rfl rfl ?_
           refine x_moveS rfl rfl rfl (fun hg105 => ?_) (fun hg105 => ?_)
           ·refine x_fa rfl rfl rfl fld34_2 rfl ?_
            refine x_ldL rfl rfl rfl isag27 rfl rfl ?_
            refine x_len rfl rfl rfl (by first | assumption | exact Rd.enc) und27 ?_
            refine x_bin rfl rfl rfl rfl rfl ?_
            refine x_pickT rfl rfl rfl rfl ?_
            refine x_assign rfl rfl rfl ?_
            exact x_nil (hK _ _ _ _ (by repeat (first | exact trivial | refine And.intro rfl ?_ | refine And.intro (by exact congrArg (fun b => some (V.p (PV.bool b))) (by simp only [aloneB]; (try rw [show ((s.heads.l.length : Int) == 1) = (s.heads.l.length == 1) by rw [Bool.eq_iff_iff]; simp; omega] at hg105); rw [hg105]; first | rfl | (rw [Bool.eq_iff_iff]; simp))) ?_)) (by repeat first | exact trivial | refine .intro rfl ?_))
           ·refine x_skip rfl rfl ?_
            refine x_skip rfl rfl ?_
            refine x_skip rfl rfl ?_
            refine x_skip rfl rfl ?_
            refine x_pickF rfl rfl rfl rfl ?_
            refine x_assign rfl rfl rfl ?_
            exact x_nil (hK _ _ _ _ (by repeat (first | exact trivial | refine And.intro rfl ?_ | refine And.intro (by exact congrArg (fun b => some (V.p (PV.bool b))) (by simp only [aloneB]; (try rw [show ((s.heads.l.length : Int) == 1) = (s.heads.l.length == 1) by rw [Bool.eq_iff_iff]; simp; omega] at hg105); rw [hg105]; first | rfl | (rw [Bool.eq_iff_iff]; simp))) ?_)) (by repeat first | exact trivial | refine .intro rfl ?_))
          intro b rb
          refine go_seq (wc_seq (wc_seq ?_))
          refine xc_regCut [(1, _), (4, _), (8, _), (48, _), (49, _), (50, _), (55, _), (56, _), (57, _), (80, _), (81, _), (82, _)] [(1, _), (4, _), (8, _)] [(135, .p (.bool (!aloneOk s h.kind)))] (by repeat first | exact trivial | refine .intro rfl ?_) (by repeat first | exact trivial | refine .intro rfl ?_) (fun K hK => ?_) ?_
          ·refine x_fa rfl rfl rfl fld37_0 rfl ?_
           refine x_ldL rfl rfl rfl isag3 rfl rfl ?_
           refine x_bin rfl rfl rfl rfl rfl ?_
           refine x_moveS rfl rfl rfl (fun hg114 => ?_) (fun hg114 => ?_)
           ·refine x_fa rfl rfl rfl fld34_0 rfl ?_
            refine x_ldL rfl rfl rfl isag4 rfl rfl ?_
            refine x_moveS rfl rfl rfl (fun hg117 => ?_) (fun hg117 => ?_)
            ·refine x_move rfl rfl rfl ?_
             refine x_pickT rfl rfl rfl rfl ?_
             refine x_not rfl rfl rfl ?_
             refine x_pickT rfl rfl rfl rfl ?_
             refine x_moveS rfl rfl rfl (fun hg122 => ?_) (fun hg122 => ?_)
             ·refine x_skip rfl rfl ?_
              refine x_skip rfl rfl ?_
              refine x_skip rfl rfl ?_
              refine x_skip rfl rfl ?_
              refine x_skip rfl rfl ?_
              refine x_skip rfl rfl ?_
              refine x_skip rfl rfl ?_
              refine x_skip rfl rfl ?_
              refine x_skip rfl rfl ?_
              refine x_skip rfl rfl ?_
              refine x_skip rfl rfl ?_
              refine x_skip rfl rfl ?_
              refine x_pickT rfl rfl rfl rfl ?_
              exact x_nil (hK _ _ _ _ (by repeat (first | exact trivial | refine And.intro rfl ?_ | refine And.intro (by exact congrArg (fun b => some (V.p (PV.bool b))) (by simp only [aloneOk]; (try rw [hg114]); (try rw [hg117]); (try rw [hg126]); (try rw [hg130]); simp_all)) ?_)) (by repeat first | exact trivial | refine .intro rfl ?_))
             ·refine x_fa rfl rfl rfl fld37_0 rfl ?_
              refine x_ldL rfl rfl rfl isag3 rfl rfl ?_
              refine x_bin rfl rfl rfl rfl rfl ?_
              refine x_moveS rfl rfl rfl (fun hg126 => ?_) (fun hg126 => ?_)
              ·refine x_fa rfl rfl rfl fld34_0 rfl ?_
               refine x_ldL rfl rfl rfl isag4 rfl rfl ?_
               refine x_not rfl rfl rfl ?_
               refine x_moveS rfl rfl rfl (fun hg130 => ?_) (fun hg130 => ?_)
               ·refine x_move rfl rfl rfl ?_
                refine x_pickT rfl rfl rfl rfl ?_
                refine x_not rfl rfl rfl ?_
                refine x_pickT rfl rfl rfl rfl ?_
                refine x_pickF rfl rfl rfl rfl ?_
                exact x_nil (hK _ _ _ _ (by repeat (first | exact trivial | refine And.intro rfl ?_ | refine And.intro (by exact congrArg (fun b => some (V.p (PV.bool b))) (by simp only [aloneOk]; (try rw [hg114]); (try rw [hg117]); (try rw [hg126]); (try rw [hg130]); simp_all)) ?_)) (by repeat first | exact trivial | refine .intro rfl ?_))
               ·refine x_skip rfl rfl ?_
                refine x_pickF rfl rfl rfl rfl ?_
                refine x_not rfl rfl rfl ?_
                refine x_pickT rfl rfl rfl rfl ?_
                refine x_pickF rfl rfl rfl rfl ?_
                exact x_nil (hK _ _ _ _ (by repeat (first | exact trivial | refine And.intro rfl ?_ | refine And.intro (by exact congrArg (fun b => some (V.p (PV.bool b))) (by simp only [aloneOk]; (try rw [hg114]); (try rw [hg117]); (try rw [hg126]); (try rw [hg130]); simp_all)) ?_)) (by repeat first | exact trivial | refine .intro rfl ?_))
              ·refine x_skip rfl rfl ?_
               refine x_skip rfl rfl ?_
               refine x_skip rfl rfl ?_
               refine x_skip rfl rfl ?_
               refine x_skip rfl rfl ?_
               refine x_skip rfl rfl ?_
               refine x_skip rfl rfl ?_
               refine x_pickF rfl rfl rfl rfl ?_
               refine x_pickF rfl rfl rfl rfl ?_
               exact x_nil (hK _ _ _ _ (by repeat (first | exact trivial | refine And.intro rfl ?_ | refine And.intro (by exact congrArg (fun b => some (V.p (PV.bool b))) (by simp only [aloneOk]; (try rw [hg114]); (try rw [hg117]); (try rw [hg126]); (try rw [hg130]); simp_all)) ?_)) (by repeat first | exact trivial | refine .intro rfl ?_))
            ·refine x_skip rfl rfl ?_
             refine x_pickF rfl rfl rfl rfl ?_
             refine x_not rfl rfl rfl ?_
             refine x_pickT rfl rfl rfl rfl ?_
             refine x_move rfl rfl rfl ?_
             refine x_skip rfl rfl ?_
             refine x_skip rfl rfl ?_
             refine x_skip rfl rfl ?_
             refine x_skip rfl rfl ?_
             refine x_skip rfl rfl ?_
             refine x_skip rfl rfl ?_
             refine x_skip rfl rfl ?_
             refine x_skip rfl rfl ?_
             refine x_skip rfl rfl ?_
             refine x_skip rfl rfl ?_
             refine x_skip rfl rfl ?_
             refine x_skip rfl rfl ?_
             refine x_pickT rfl rfl rfl rfl ?_
             exact x_nil (hK _ _ _ _ (by repeat (first | exact trivial | refine And.intro rfl ?_ | refine And.intro (by exact congrArg (fun b => some (V.p (PV.bool b))) (by simp only [aloneOk]; (try rw [hg114]); (try rw [hg117]); (try rw [hg126]); (try rw [hg130]); simp_all)) ?_)) (by repeat first | exact trivial | refine .intro rfl ?_))
           ·refine x_skip rfl rfl ?_
            refine x_skip rfl rfl ?_
            refine x_skip rfl rfl ?_
            refine x_skip rfl rfl ?_
            refine x_skip rfl rfl ?_
            refine x_skip rfl rfl ?_
            refine x_pickF rfl rfl rfl rfl ?_
            refine x_move rfl rfl rfl ?_
            refine x_fa rfl rfl rfl fld37_0 rfl ?_
            refine x_ldL rfl rfl rfl isag3 rfl rfl ?_
            refine x_bin rfl rfl rfl rfl rfl ?_
            refine x_moveS rfl rfl rfl (fun hg126 => ?_) (fun hg126 => ?_)
            ·refine x_fa rfl rfl rfl fld34_0 rfl ?_
             refine x_ldL rfl rfl rfl isag4 rfl rfl ?_
             refine x_not rfl rfl rfl ?_
             refine x_moveS rfl rfl rfl (fun hg130 => ?_) (fun hg130 => ?_)
             ·refine x_move rfl rfl rfl ?_
              refine x_pickT rfl rfl rfl rfl ?_
              refine x_not rfl rfl rfl ?_
              refine x_pickT rfl rfl rfl rfl ?_
              refine x_pickF rfl rfl rfl rfl ?_
              exact x_nil (hK _ _ _ _ (by repeat (first | exact trivial | refine And.intro rfl ?_ | refine And.intro (by exact congrArg (fun b => some (V.p (PV.bool b))) (by simp only [aloneOk]; (try rw [hg114]); (try rw [hg117]); (try rw [hg126]); (try rw [hg130]); simp_all)) ?_)) (by repeat first | exact trivial | refine .intro rfl ?_))
             ·refine x_skip rfl rfl ?_
              refine x_pickF rfl rfl rfl rfl ?_
              refine x_not rfl rfl rfl ?_
              refine x_pickT rfl rfl rfl rfl ?_
              refine x_pickF rfl rfl rfl rfl ?_
              exact x_nil (hK _ _ _ _ (by repeat (first | exact trivial | refine And.intro rfl ?_ | refine And.intro (by exact congrArg (fun b => some (V.p (PV.bool b))) (by simp only [aloneOk]; (try rw [hg114]); (try rw [hg117]); (try rw [hg126]); (try rw [hg130]); simp_all)) ?_)) (by repeat first | exact trivial | refine .intro rfl ?_))
            ·refine x_skip rfl rfl ?_
             refine x_skip rfl rfl ?_
             refine x_skip rfl rfl ?_
             refine x_skip rfl rfl ?_
             refine x_skip rfl rfl ?_
             refine x_skip rfl rfl ?_
             refine x_skip rfl rfl ?_
             refine x_pickF rfl rfl rfl rfl ?_
             refine x_pickF rfl rfl rfl rfl ?_
             exact x_nil (hK _ _ _ _ (by repeat (first | exact trivial | refine And.intro rfl ?_ | refine And.intro (by exact congrArg (fun b => some (V.p (PV.bool b))) (by simp only [aloneOk]; (try rw [hg114]); (try rw [hg117]); (try rw [hg126]); (try rw [hg130]); simp_all)) ?_)) (by repeat first | exact trivial | refine .intro rfl ?_))
          intro b rb
          refine go_seq ?_
          refine xc_cond _ rfl (fun hc6 => ?_) (fun hc6 => ?_)
          ·have hao : aloneOk s h.kind = false := by simpa using hc6
           refine wc_seq (wc_reg fun K hK => ?_)
           refine x_assign rfl rfl rfl ?_
           refine x_nil (hK _ ?_); clear hK K
           refine go_seq (wc_ret (go_seq_ret (go_blk_ret (go_seq_ret ?_))))
           refine hR2_2 _ _ (by simp) ?_
           refine go_blk_ret (go_blk_ret (go_seq_ret ?_))
           refine hR2_0 _ _ (by simp) ?_
           refine go_blk_ret (go_seq_ret ?_)
           exact x_end1 (Or.inr rfl) rfl rfl rfl rfl rfl rfl (by rw [rightA_no hm (headIR_no hlt3 (by rw [headIR_at eh]; unfold headR; rw [hao, Bool.false_and, Bool.and_false]))])
          ·have hao : aloneOk s h.kind = true := by simpa using hc6
           refine wc_skip (go_seq (wc_seq (wc_reg fun K hK => ?_)))
           refine x_fa rfl rfl rfl fld37_0 rfl ?_
           refine x_ldL rfl rfl rfl isag3 rfl rfl ?_
           refine x_fa rfl rfl rfl fld37_1 rfl ?_
           refine x_ldL rfl rfl rfl isag35 rfl rfl ?_
           refine x_fa rfl rfl rfl fld37_3 rfl ?_
           refine x_ldL rfl rfl rfl isag4 rfl rfl ?_
           refine x_buildU rfl rfl zero37 rfl pl37 rfl ?_
           refine x_allocG rfl rfl rfl zero37 rfl fun G10 => ?_
           refine x_stL rfl rfl rfl sz37 rfl rfl rfl rfl ?_
           refine x_nil (hK _ ?_); clear hK K
           refine go_seq (wc_seq (wc_seq (wc_reg fun K hK => ?_)))
           refine x_fa rfl rfl rfl fld37_2 rfl ?_
           refine x_ldL rfl rfl rfl isag27 rfl rfl ?_
           refine x_len rfl rfl rfl (by first | assumption | exact Rd.enc) und27 ?_
           refine x_move rfl rfl rfl ?_
           refine x_nil (hK _ ?_); clear hK K
           refine go_seq (wc_block ?_)
           refine xc_loopG [(1, _), (4, _), (8, _), (10, _), (48, _), (49, _), (50, _), (55, _), (56, _), (57, _), (80, _), (81, _), (82, _), (144, _), (145, _)] [(1, _), (4, _), (8, _)] (fun k : Nat => [(146, .p (.int .i64 k))]) (fun k : Nat => [(10, (G10, headRow h (accW (g.toks.length + ts2.length) 1 (List.replicate k [V.p (.int .i64 0)]))))]) (fun k : Nat => g.ext [] (tsA ts2 k)) (fun k : Nat => k ≤ h.kids.l.length ∧ ∀ q, q < k → kidR L.l s.plus h.kind q (h.kids.l.getD q 0) = true) (fun k : Nat => h.kids.l.length - k) 0 (by repeat first | exact trivial | refine .intro rfl ?_) (by repeat first | exact trivial | refine .intro rfl ?_) rfl ⟨Nat.zero_le _, fun i hi => absurd hi (Nat.not_lt_zero _)⟩ ?_
           rintro k R3 hR1_3 hR2_3 ⟨hi4, hr4⟩ b rb
           refine wc_seq (wc_reg fun K hK => ?_)
           refine x_bin rfl rfl rfl rfl rfl ?_
           refine x_nil (hK _ ?_); clear hK K
           refine go_seq (wc_seq ?_)
           refine xc_cond _ rfl (fun hc7 => ?_) (fun hc7 => ?_)
           ·have hlt4 : k < h.kids.l.length := by simp at hc7; omega
            obtain ⟨z, ez⟩ : ∃ z, h.kids.l[k]? = some z := ⟨_, List.getElem?_eq_getElem hlt4⟩
            have ez3 : h.kids.l.getD k 0 = z := by rw [List.getD_eq_getElem?_getD, ez]; rfl
            refine wc_skip (go_seq (wc_seq (wc_block (wc_seq (wc_reg fun K hK => ?_)))))
            refine x_move rfl rfl rfl ?_
            refine x_ia rfl rfl rfl (by first | assumption | exact Rd.enc) rfl und27 sz3 rfl (by assumption) rfl ?_
            refine x_ldR rfl rfl rfl isag3 rfl ?_
            refine x_assign rfl rfl rfl ?_
            refine x_assign rfl rfl rfl ?_
            refine x_nil (hK _ ?_); clear hK K
            refine go_seq (wc_seq (wc_seq ?_))
            refine xc_regCut [(1, _), (4, _), (8, _), (10, _), (11, _), (12, _), (48, _), (49, _), (50, _), (55, _), (56, _), (57, _), (80, _), (81, _), (82, _), (144, _), (145, _), (146, _)] [(1, _), (4, _), (8, _), (10, _)] [(159, .p (.bool (!inR L.l.length z)))] (by repeat first | exact trivial | refine .intro rfl ?_) (by repeat first | exact trivial | refine .intro rfl ?_) (fun K hK => ?_) ?_
            ·refine x_move rfl rfl rfl ?_
             refine x_bin rfl rfl rfl rfl rfl ?_
             refine x_moveS rfl rfl rfl (fun hg153 => ?_) (fun hg153 => ?_)
             ·refine x_skip rfl rfl ?_
              refine x_skip rfl rfl ?_
              refine x_skip rfl rfl ?_
              refine x_skip rfl rfl ?_
              refine x_skip rfl rfl ?_
              refine x_pickT rfl rfl rfl rfl ?_
              exact x_nil (hK _ _ _ _ (by repeat (first | exact trivial | refine And.intro rfl ?_ | refine And.intro (by exact congrArg (fun b => some (V.p (PV.bool b))) (by simp only [inR]; first | (rw [decide_eq_false (p := 0 ≤ z) (by simp only [decide_eq_true_eq] at hg153; omega)]; rfl) | (rw [decide_eq_true (p := 0 ≤ z) (by simp only [decide_eq_false_iff_not] at hg153; omega)]; rw [Bool.eq_iff_iff]; simp))) ?_)) (by repeat first | exact trivial | refine .intro rfl ?_))
             ·refine x_move rfl rfl rfl ?_
              refine x_fa rfl rfl rfl fld24_0 rfl ?_
              refine x_ldL rfl rfl rfl isag22 rfl rfl ?_
              refine x_len rfl rfl rfl (by first | assumption | exact Rd.enc) und22 ?_
              refine x_bin rfl rfl rfl rfl rfl ?_
              refine x_pickF rfl rfl rfl rfl ?_
              exact x_nil (hK _ _ _ _ (by repeat (first | exact trivial | refine And.intro rfl ?_ | refine And.intro (by exact congrArg (fun b => some (V.p (PV.bool b))) (by simp only [inR]; first | (rw [decide_eq_false (p := 0 ≤ z) (by simp only [decide_eq_true_eq] at hg153; omega)]; rfl) | (rw [decide_eq_true (p := 0 ≤ z) (by simp only [decide_eq_false_iff_not] at hg153; omega)]; rw [Bool.eq_iff_iff]; simp))) ?_)) (by repeat first | exact trivial | refine .intro rfl ?_))
            intro b rb
            refine go_seq ?_
            refine xc_cond _ rfl (fun hc8 => ?_) (fun hc8 => ?_)
            ·have hin : inR L.l.length z = false := by simpa using hc8
             refine wc_seq (wc_reg fun K hK => ?_)
             refine x_assign rfl rfl rfl ?_
             refine x_nil (hK _ ?_); clear hK K
             refine go_seq (wc_ret (go_seq_ret (go_blk_ret (go_seq_ret ?_))))
             refine hR2_3 _ _ (by simp) ?_
             refine go_blk_ret (go_seq_ret (go_blk_ret (go_seq_ret ?_)))
             refine hR2_2 _ _ (by simp) ?_
             refine go_blk_ret (go_blk_ret (go_seq_ret ?_))
             refine hR2_0 _ _ (by simp) ?_
             refine go_blk_ret (go_seq_ret ?_)
             exact x_end1 (Or.inr rfl) rfl rfl rfl rfl rfl rfl (by rw [rightA_no hm (headIR_no hlt3 (by rw [headIR_at eh]; unfold headR; rw [rng_no hlt4 (by rw [ez3]; unfold kidR; unfold inR at hin; rw [hin, Bool.false_and]), Bool.false_and, Bool.and_false, Bool.and_false]))])
            ·have hin : inR L.l.length z = true := by simpa using hc8
             have hz0 : 0 ≤ z := by simp [inR] at hin; omega
             have hzl : z < L.l.length := by simp [inR] at hin; omega
             obtain ⟨st2, es2⟩ : ∃ st2, L.l[z.toNat]? = some st2 := ⟨_, List.getElem?_eq_getElem (by omega)⟩
             have hkr : kidR L.l s.plus h.kind k z = !(st2.plus == (s.plus == (h.kind == 7 && k == 0))) := by simp only [kidR, hz0, hzl, decide_true, Bool.true_and, es2, Option.map_some, Option.getD_some]
             refine wc_skip (go_seq (wc_seq ?_))
             refine xc_regCut [(1, _), (4, _), (8, _), (10, _), (12, _), (48, _), (49, _), (50, _), (55, _), (56, _), (57, _), (80, _), (81, _), (82, _), (144, _), (145, _), (146, _)] [(1, _), (4, _), (8, _), (10, _)] [(13, .p (.bool (h.kind == 7 && k == 0)))] (by repeat first | exact trivial | refine .intro rfl ?_) (by repeat first | exact trivial | refine .intro rfl ?_) (fun K hK => ?_) ?_
             ·refine x_fa rfl rfl rfl fld37_0 rfl ?_
              refine x_ldL rfl rfl rfl isag3 rfl rfl ?_
              refine x_bin rfl rfl rfl rfl rfl ?_
              refine x_moveS rfl rfl rfl (fun hg163 => ?_) (fun hg163 => ?_)
              ·refine x_move rfl rfl rfl ?_
               refine x_bin rfl rfl rfl rfl rfl ?_
               refine x_pickT rfl rfl rfl rfl ?_
               refine x_assign rfl rfl rfl ?_
               exact x_nil (hK _ _ _ _ (by repeat (first | exact trivial | refine And.intro rfl ?_ | refine And.intro (by exact congrArg (fun b => some (V.p (PV.bool b))) (by rw [hg163]; first | rfl | (rw [Bool.eq_iff_iff]; simp))) ?_)) (by repeat first | exact trivial | refine .intro rfl ?_))
              ·refine x_skip rfl rfl ?_
               refine x_skip rfl rfl ?_
               refine x_pickF rfl rfl rfl rfl ?_
               refine x_assign rfl rfl rfl ?_
               exact x_nil (hK _ _ _ _ (by repeat (first | exact trivial | refine And.intro rfl ?_ | refine And.intro (by exact congrArg (fun b => some (V.p (PV.bool b))) (by rw [hg163]; first | rfl | (rw [Bool.eq_iff_iff]; simp))) ?_)) (by repeat first | exact trivial | refine .intro rfl ?_))
             intro b rb
             refine go_seq (wc_seq (wc_seq ?_))
             refine xc_drw [0, 1, 2, 3, 4, 5, 6, 7, 8, 9, 10] mixed (by kernel_rfl) fun K hK => ?_
             refine x_fa rfl rfl rfl fld24_0 rfl ?_
             refine x_ldL rfl rfl rfl isag22 rfl rfl ?_
             refine x_move rfl rfl rfl ?_
             refine x_iaI rfl rfl rfl Rd.enc rfl und22 sz34 rfl hz0 es2 rfl ?_
             refine x_fa rfl rfl rfl fld34_0 rfl ?_
             refine x_ldR rfl rfl rfl isag4 rfl ?_
             refine x_fa rfl rfl rfl fld34_0 rfl ?_
             refine x_ldL rfl rfl rfl isag4 rfl rfl ?_
             refine x_move rfl rfl rfl ?_
             refine x_bin rfl rfl rfl rfl rfl ?_
             refine x_bin rfl rfl rfl rfl rfl ?_
             refine x_nil (hK _ ?_); clear hK K
             refine go_seq ?_
             refine xc_cond _ rfl (fun hc9 => ?_) (fun hc9 => ?_)
             ·have hkf : kidR L.l s.plus h.kind k z = false := by rw [hkr, hc9]; rfl
              refine wc_seq (wc_reg fun K hK => ?_)
              refine x_assign rfl rfl rfl ?_
              refine x_nil (hK _ ?_); clear hK K
              refine go_seq (wc_ret (go_seq_ret (go_blk_ret (go_seq_ret ?_))))
              refine hR2_3 _ _ (by simp) ?_
              refine go_blk_ret (go_seq_ret (go_blk_ret (go_seq_ret ?_)))
              refine hR2_2 _ _ (by simp) ?_
              refine go_blk_ret (go_blk_ret (go_seq_ret ?_))
              refine hR2_0 _ _ (by simp) ?_
              refine go_blk_ret (go_seq_ret ?_)
              exact x_end1 (Or.inr rfl) rfl rfl rfl rfl rfl rfl (by rw [rightA_no hm (headIR_no hlt3 (by rw [headIR_at eh]; unfold headR; rw [rng_no hlt4 (by rw [ez3]; exact hkf), Bool.false_and, Bool.and_false, Bool.and_false]))])
             ·have hkt : kidR L.l s.plus h.kind k z = true := by rw [hkr, hc9]; rfl
              refine wc_skip (go_seq (wc_reg fun K hK => ?_))
              refine x_fa rfl rfl rfl fld37_2 rfl ?_
              refine x_ldL rfl rfl rfl isag27 rfl rfl ?_
              refine x_bs rfl rfl rfl el27 sz3 zero3 rfl rfl rfl ?_
              refine x_app (i := ts2.length) rfl rfl rfl hwt rfl rfl el27 und27 zero3 inf3 rfl rows0 rfl (by show ((List.replicate k _).length + 1) * 8 ≤ _; rw [List.length_replicate]; omega) (by show accS _ _ (List.replicate k _).length 1 = _; rw [List.length_replicate]; exact accS_a ts2 k) ?_
              refine x_fa rfl rfl rfl fld37_2 rfl ?_
              refine x_stL rfl rfl rfl sz27 rfl rfl rfl rfl ?_
              refine x_nil (hK _ ?_); clear hK K
              refine go_blk (go_seq (wc_reg fun K hK => ?_))
              refine x_inc rfl rfl rfl rfl (by omega) ?_
              refine x_move rfl rfl rfl ?_
              refine x_nil (hK _ ?_); clear hK K
              exact hR1_3 (k + 1) _ _ _ _ _ ⟨hlt4, fun q hq => by rcases Nat.lt_succ_iff_lt_or_eq.1 hq with hq | rfl; (exact hr4 q hq); rw [ez3]; exact hkt⟩ (by omega) (by repeat first | exact trivial | refine .intro rfl ?_) (by repeat (first | exact trivial | refine And.intro rfl ?_ | refine And.intro (by simp only [accR_succ]; rfl) ?_)) rfl
           ·have hall : ((List.range h.kids.l.length).all fun q => kidR L.l s.plus h.kind q (h.kids.l.getD q 0)) = true := rng_yes fun q hq => hr4 q (by simp at hc7; omega)
            obtain rfl : k = h.kids.l.length := by simp at hc7; omega
            refine wc_exit ?_
            refine go_seq_exit ?_
            refine hR2_3 _ _ (by simp) ?_
            refine go_blk_exit (go_seq (wc_seq (wc_reg fun K hK => ?_)))
            refine x_ldLA rfl rfl rfl isag37 sz37 rfl rfl ?_
            refine x_bs rfl rfl rfl el32 sz37 zero37 rfl rfl (fillH one_acc0 rfl) ?_
            refine x_buildU rfl rfl zero40 rfl pl40 rfl ?_
            refine x_call rfl rfl rfl (by repeat (first | exact ho_nil | refine ho_cons (by first | rfl | exact rd_ho (by assumption)) ?_)) okf17 (frz fz_head (rightG_ok (Sl.of [flat h]) 0 (by show 1 < _; omega) (fun q hq => by simp only [Sl.of, List.mem_singleton] at hq; subst hq; exact ⟨hgd.names, hgd.each, by show (List.replicate _ _).length < _; simpa using hkk⟩) _)) ?_
            refine x_not rfl rfl rfl ?_
            refine x_nil (hK _ ?_); clear hK K
            refine go_seq ?_
            refine xc_cond _ rfl (fun hc10 => ?_) (fun hc10 => ?_)
            ·have hg0 : rightG [flat h] 0 = false := by rw [Bool.not_eq_true'] at hc10; exact hc10
             refine wc_seq (wc_reg fun K hK => ?_)
             refine x_assign rfl rfl rfl ?_
             refine x_nil (hK _ ?_); clear hK K
             refine go_seq (wc_ret (go_blk_ret (go_seq_ret ?_)))
             refine hR2_2 _ _ (by simp) ?_
             refine go_blk_ret (go_blk_ret (go_seq_ret ?_))
             refine hR2_0 _ _ (by simp) ?_
             refine go_blk_ret (go_seq_ret ?_)
             exact x_end1 (Or.inr rfl) rfl rfl rfl rfl rfl rfl (by rw [rightA_no hm (headIR_no hlt3 (by rw [headIR_at eh]; unfold headR; rw [hg0, Bool.and_false, Bool.and_false, Bool.and_false]))])
            ·have hg0 : rightG [flat h] 0 = true := by rw [Bool.not_eq_false'] at hc10; exact hc10
             refine wc_skip (go_blk (go_seq (wc_reg fun K hK => ?_)))
             refine x_inc rfl rfl rfl rfl (by omega) ?_
             refine x_move rfl rfl rfl ?_
             refine x_nil (hK _ ?_); clear hK K
             exact hR1_2 (i + 1, tsA ts2 h.kids.l.length) _ _ _ _ _ ⟨hlt3, fun q hq => by rcases Nat.lt_succ_iff_lt_or_eq.1 hq with hq | rfl; (exact hr3 q hq); rw [headIR_at eh]; unfold headR; rw [hrk, hao, hall, hg0]; rfl⟩ (by show s.heads.l.length - (i + 1) < s.heads.l.length - i; omega) (by repeat first | exact trivial | refine .intro rfl ?_) (by repeat first | exact trivial | refine .intro rfl ?_) rfl
        ·have hf2 : (List.range s.heads.l.length).all (headIR L.l s) = true := rng_yes fun q hq => hr3 q (by simp at hc4; omega)
         refine wc_exit ?_
         refine go_seq_exit ?_
         refine hR2_2 _ _ (by simp) ?_
         refine go_blk_exit (go_blk (go_seq (wc_reg fun K hK => ?_)))
         refine x_inc rfl rfl rfl rfl (by omega) ?_
         refine x_move rfl rfl rfl ?_
         refine x_nil (hK _ ?_); clear hK K
         exact hR1_0 (j + 1, ts2) _ _ _ _ _ ⟨hlt, leadP_up (p := rightS L.l) hr e1 (by unfold rightS; rw [hf1, hf2]; rfl)⟩ (by show L.l.length - (j + 1) < L.l.length - j; omega) (by repeat first | exact trivial | refine .intro rfl ?_) (by repeat first | exact trivial | refine .intro rfl ?_) rfl
      ·refine wc_exit ?_
       refine go_seq_exit ?_
       refine hR2_0 _ _ (by simp) ?_
       refine go_blk_exit (go_seq (wc_seq (wc_reg fun K hK => ?_)))
       refine x_assign rfl rfl rfl ?_
       refine x_nil (hK _ ?_); clear hK K
       refine go_seq (wc_ret ?_)
       exact x_end1 (Or.inr rfl) rfl rfl rfl rfl rfl rfl (by congr 2; have e : L.l.all (rightS L.l) = true := all_lead fun q hq => hr q (by simp at hc1; omega); unfold rightA; rw [e, hpl, decide_eq_false hz, decide_eq_false (p := 4096 < L.l.length) (by simp at hg24; omega), decide_eq_false (p := root < 0) (by simp at hg29; omega), decide_eq_false (p := (L.l.length : Int) ≤ root) (by simp at hg37; omega)]; rfl)
end Go.Vm
set_option linter.unusedVariables false
namespace Go.Vm
open Go
section
variable {E : Env} {qt : Bool} {ops : Array Oper} {l : List Oper} {K : St → Prop}
variable {nt : Nat} {esc : Nat → Bool} {g : G} {os : List Ob} {ts : List Nat}
variable {d : Nat} {ty : TypeId} {pos : String} {after : Array Edge} {gd : Option (Nat × Bool)} {op : Op}
variable {b : Nat → V} {L : List (Nat × V)} {rb : Nat → Option (Nat × List V)} {R : List (Nat × (Nat × List V))}
theorem x_bsA {t e : TypeId} {n m : Nat} {ps : Array (Nat × Operand)} {z cs : List V} {vs : List (Nat × V)} (h : wX ops nt L gd = some true) (hd : Nat.blt d nt = true) (he : esc d = true) (hu : elemOf E t = some e) (hs : sz E e = some n) (hz : zeroOf E e = some z) (hp : partsX E L ps.toList = some vs)
  (hb : (Nat.blt 0 n && Nat.beq z.length n && Nat.ble (m * n) 16777216 && z.all one) = true) (hc : fillIn (fun i => some (i * n, n)) (List.replicate m z).flatten vs = some cs)
  (k : wpL E qt ops l (Sx nt b ((d, .arr (g.objs.length + os.length) 0 m m n) :: L) rb R esc (g.ext (os ++ [.cells cs]) ts)) K) :
  wpL E qt ops (⟨some d, .buildSlice t m ps, ty, pos, after, gd⟩ :: l) (Sx nt b L rb R esc (g.ext os ts)) K := by
 refine x_op (s1 := Sx nt b L rb R esc g) h hd rfl ?_ k
 have hp' : (Sx nt b L rb R esc (g.ext os ts)).parts E ps.toList = some vs := partsX_ok hp
 simp only [Bool.and_eq_true] at hb
 obtain ⟨⟨⟨h1, h2⟩, h3⟩, h4⟩ := hb
 have h1 : 0 < n := Nat.le_of_ble_eq_true h1
 have h2 : z.length = n := Nat.eq_of_beq_eq_true h2
 have h3 : m * n ≤ 16777216 := Nat.le_of_ble_eq_true h3
 have hbig : (Sx nt b L rb R esc (g.ext os ts)).big (some d) = true := he
 simp only [stepV, hu, hs, hz, hp']
 rw [if_neg (by simp only [not_or, Decidable.not_not]; exact ⟨by omega, h2, by omega, h4⟩), hc]
 simp only [Option.map_some]
 rw [if_pos hbig]
 simp only [Sx, ext_len, ext_new]
theorem x_appA {t u e : TypeId} {x y : Operand} {m by' i len cap : Nat} {z cs : List V} {ys : List (List V)} {k' : SK} (h : wX ops nt L gd = some true) (hd : Nat.blt d nt = true) (he0 : esc d = true) (hwo : g.wo = g.objs.length) (hx : evX E L x = some (.arr (g.objs.length + i) 0 len cap m)) (hy : evX E L y = some (.sl ys k'))
  (he : elemOf E t = some e) (hu : E.P.underlying u = some (.slice e)) (hz : zeroOf E e = some z) (hi : (E.P.info? e).map (fun i => (i.size, i.bytes)) = some (m, by')) (hm : (Nat.blt 0 m && Nat.blt 0 by' && Nat.beq z.length m && Nat.blt 0 ys.length && z.all one) = true)
  (hys : ys.all (rowOk m) = true) (hn : (len + ys.length) * by' ≤ 2 ^ 47) (ho : os[i]? = some (.cells cs)) (hcs : cs.length = len * m)
  (k : wpL E qt ops l (Sx nt b ((d, .arr (g.objs.length + os.length) 0 (len + ys.length) (len + ys.length) m) :: L) rb R esc (g.ext (os.set i .dead ++ [.cells (cs ++ ys.flatten)]) ts)) K) :
  wpL E qt ops (⟨some d, .call { callee := .builtin .append, args := #[x, y], argTypes := #[t, u] }, ty, pos, after, gd⟩ :: l) (Sx nt b L rb R esc (g.ext os ts)) K := by
 refine x_op (s1 := Sx nt b L rb R esc g) h hd rfl ?_ k
 have hg : (Sx nt b L rb R esc (g.ext os ts)).g.objs[g.objs.length + i]? = some (.cells cs) := by simp only [Sx, ext_obj, ho]
 simp only [Bool.and_eq_true] at hm
 obtain ⟨⟨⟨⟨h1, h2⟩, h3⟩, h4⟩, h5⟩ := hm
 have h1 : 0 < m := Nat.le_of_ble_eq_true h1
 have h2 : 0 < by' := Nat.le_of_ble_eq_true h2
 have h3 : z.length = m := Nat.eq_of_beq_eq_true h3
 have h4 : 0 < ys.length := Nat.le_of_ble_eq_true h4
 obtain ⟨inf, hi1, hi2⟩ := Option.map_eq_some_iff.1 hi
 simp only [Prod.mk.injEq] at hi2
 obtain ⟨hm1, hb1⟩ := hi2
 have ev1 : evL E (Sx nt b L rb R esc (g.ext os ts)) [x, y] = some [.arr (g.objs.length + i) 0 len cap m, .sl ys k'] := by simp only [evL, evS hx, evS hy]
 have hbig : (Sx nt b L rb R esc (g.ext os ts)).big (some d) = true := he0
 obtain ⟨r, rs, rfl⟩ : ∃ r rs, ys = r :: rs := by cases ys with | nil => simp at h4 | cons r rs => exact ⟨r, rs, rfl⟩
 have hap : (Sx nt b L rb R esc (g.ext os ts)).append E (some d) e (.arr (g.objs.length + i) 0 len cap m) (.sl (r :: rs) k') = some (.arr (g.objs.length + os.length) 0 (len + (r :: rs).length) (len + (r :: rs).length) m, Sx nt b L rb R esc (g.ext (os.set i .dead ++ [.cells (cs ++ (r :: rs).flatten)]) ts)) := by
  unfold St.append
  simp only [hi1, hz, St.rows]
  rw [hm1, hb1]
  rw [if_neg (by simp only [not_or, Decidable.not_not]; exact ⟨by omega, by omega, h3, hys⟩)]
  simp only [hg]
  rw [if_pos ⟨hn, trivial, trivial, hcs, h5, hbig⟩]
  simp only [Sx, ext_len]
  rw [ext_set hwo, ext_new]
 have hu2 : E.P.underlying u = some (.slice e) := hu
 simp only [stepV]
 have ev2 : evL E (Sx nt b L rb R esc (g.ext os ts)) (#[x, y] : Array Operand).toList = some [.arr (g.objs.length + i) 0 len cap m, .sl (r :: rs) k'] := ev1
 rw [ev2]
 simp only [List.getElem?_toArray, List.getElem?_cons_zero, List.getElem?_cons_succ, he, hu2]
 exact hap
theorem x_appE {t u e : TypeId} {x y : Operand} {m by' i len cap : Nat} {z cs : List V} {ys : List (List V)} {k' : SK} {v' : V} {os' : List Ob} (h : wX ops nt L gd = some true) (hd : Nat.blt d nt = true) (he0 : esc d = true) (hwo : g.wo = g.objs.length) (hx : evX E L x = some (.arr (g.objs.length + i) 0 len cap m)) (hy : evX E L y = some (.sl ys k'))
  (he : elemOf E t = some e) (hu : E.P.underlying u = some (.slice e)) (hz : zeroOf E e = some z) (hi : (E.P.info? e).map (fun i => (i.size, i.bytes)) = some (m, by')) (hm : (Nat.blt 0 m && Nat.blt 0 by' && Nat.beq z.length m && Nat.blt 0 ys.length && z.all one) = true)
  (hys : ys.all (rowOk m) = true) (hn : (len + ys.length) * by' ≤ 2 ^ 47) (ho : os[i]? = some (.cells cs)) (hcs : cs.length = len * m) (hv : V.arr (g.objs.length + os.length) 0 (len + ys.length) (len + ys.length) m = v') (hos : os.set i .dead ++ [.cells (cs ++ ys.flatten)] = os')
  (k : wpL E qt ops l (Sx nt b ((d, v') :: L) rb R esc (g.ext os' ts)) K) :
  wpL E qt ops (⟨some d, .call { callee := .builtin .append, args := #[x, y], argTypes := #[t, u] }, ty, pos, after, gd⟩ :: l) (Sx nt b L rb R esc (g.ext os ts)) K := by
 subst hv hos
 exact x_appA h hd he0 hwo hx hy he hu hz hi hm hys hn ho hcs k
end
end Go.Vm
set_option linter.unusedVariables false
namespace Go.Vm
open Go Go.Proofs
def esI (l : List Int) : List (PV × V × Nat) := l.zipIdx.map fun x => (.int .i64 x.1, .p (.bool true), x.2)
theorem esI_snoc (l : List Int) (s : Int) : esI (l ++ [s]) = esI l ++ [(.int .i64 s, .p (.bool true), l.length)] := by
 simp [esI, List.zipIdx_append]
theorem esI_ok (l : List Int) : (esI l).all (fun e => keyOk (.int .i64) e.1) = true := by
 rw [List.all_eq_true]
 intro e he
 obtain ⟨x, _, rfl⟩ := List.mem_map.1 he
 rfl
theorem find_esI (l : List Int) (s : Int) : findKey (esI l) (.int .i64 s) = if s ∈ l then some (V.p (.bool true)) else none := by
 have key : ∀ (l : List Int) (n : Nat), findKey ((l.zipIdx n).map fun x => ((.int .i64 x.1, .p (.bool true), x.2) : PV × V × Nat)) (.int .i64 s) = if s ∈ l then some (V.p (.bool true)) else none := by
  intro l
  induction l with
  | nil => intro n; simp [findKey]
  | cons a l ih =>
   intro n
   simp only [List.zipIdx_cons, List.map_cons, findKey, keyEq, List.mem_cons]
   by_cases h : s = a
   ·simp [h]
   ·have : (s == a) = false := by simpa using h
    simp only [this, Bool.and_false, Bool.false_eq_true, if_false, h, false_or]
    exact ih (n + 1)
 exact key l 0
theorem findI (l : List Int) (s : Int) : (match findKey (esI l) (.int .i64 s) with | some v => (if false then .tup [v, .p (.bool true)] else v) | none => (if false then .tup [.p (.bool false), .p (.bool false)] else .p (.bool false))) = V.p (.bool (decide (s ∈ l))) := by
 rw [find_esI]
 by_cases h : s ∈ l <;> simp [h]
theorem findI_no {l : List Int} {s : Int} (h : s ∉ l) : findKey (esI l) (.int .i64 s) = none := by
 rw [find_esI, if_neg h]
def reachO2 (es : List (PV × V × Nat)) (c : Nat) (out : List Int) : List Ob := .map es c :: (List.replicate (out.length - 1) .dead ++ [.cells (out.map eI)])
def reachO (out : List Int) : List Ob := reachO2 (esI out) out.length out
theorem reachO_len {es : List (PV × V × Nat)} {c : Nat} {out : List Int} (h : 0 < out.length) : (reachO2 es c out).length = out.length + 1 := by
 simp [reachO2]; omega
theorem reachO_cells {es : List (PV × V × Nat)} {c : Nat} {out : List Int} (h : 0 < out.length) : (reachO2 es c out)[out.length]? = some (.cells (out.map eI)) := by
 obtain ⟨n, hn⟩ : ∃ n, out.length = n + 1 := ⟨out.length - 1, by omega⟩
 unfold reachO2
 rw [hn, List.getElem?_cons_succ, List.getElem?_append_right (by simp)]
 simp
theorem reachO_mark {out : List Int} {k : Int} : (reachO out).set 0 (.map (esI out ++ [(.int .i64 k, .p (.bool true), out.length)]) (out.length + 1)) = reachO2 (esI (out ++ [k])) (out.length + 1) out := by
 simp [reachO, reachO2, esI_snoc]
theorem reachO_grow {es : List (PV × V × Nat)} {c : Nat} {out : List Int} {k : Int} (h : 0 < out.length) : (reachO2 es c out).set out.length .dead ++ [.cells (out.map eI ++ [[eI k]].flatten)] = reachO2 es c (out ++ [k]) := by
 obtain ⟨n, hn⟩ : ∃ n, out.length = n + 1 := ⟨out.length - 1, by omega⟩
 unfold reachO2
 rw [hn]
 simp only [List.set_cons_succ, Nat.add_sub_cancel, List.length_append, hn, List.length_cons, List.length_nil]
 rw [List.set_append_right _ _ (by simp)]
 simp only [List.length_replicate, Nat.sub_self, List.set_cons_zero, List.cons_append, List.append_assoc]
 rw [List.replicate_succ']
 simp
theorem reachO_sort {es : List (PV × V × Nat)} {c : Nat} {out : List Int} {o : Ob} (h : 0 < out.length) : (reachO2 es c out).set out.length o = .map es c :: (List.replicate (out.length - 1) .dead ++ [o]) := by
 obtain ⟨n, hn⟩ : ∃ n, out.length = n + 1 := ⟨out.length - 1, by omega⟩
 unfold reachO2
 rw [hn]
 simp only [List.set_cons_succ, Nat.add_sub_cancel]
 rw [List.set_append_right _ _ (by simp)]
 simp
theorem reachO_grow' {out : List Int} {k : Int} (h : 0 < out.length) : (reachO2 (esI (out ++ [k])) (out.length + 1) out).set out.length .dead ++ [.cells (out.map eI ++ [eI k])] = reachO (out ++ [k]) := by
 have := reachO_grow (es := esI (out ++ [k])) (c := out.length + 1) (k := k) h
 unfold reachO
 rw [List.length_append]
 exact this
theorem seal_reach {g : G} {os : List Ob} {i : Nat} {us : List Int} (hw : g.wo = g.objs.length) (ho : os[i]? = some (.cells (us.map eI))) : sealV (g.ext os []) (.arr (g.objs.length + i) 0 us.length us.length 1) = some (.p (.sl (us.map eInt))) := by
 have hobj : (g.ext os []).objs[g.objs.length + i]? = some (.cells (us.map eI)) := by rw [ext_obj]; exact ho
 have hch : ∀ us : List Int, mapR (sealD (g.ext os []) 3) (chunks 1 us.length (us.map eI)) = some (us.map eInt) := by
  intro us
  induction us with
  | nil => rfl
  | cons a us ih =>
   simp only [List.length_cons, List.map_cons, chunks, List.take_succ_cons, List.take_zero, List.drop_succ_cons, List.drop_zero, mapR, ih]
   rfl
 simp only [sealV, sealCell, sealD, hobj]
 rw [if_pos (show (g.ext os []).wo ≤ g.objs.length + i by show g.wo ≤ _; omega)]
 have ht : take? (us.map eI) 0 (us.length * 1) = some (us.map eI) := by
  unfold take?
  rw [if_pos (by simp), Nat.mul_one, List.drop_zero, List.take_of_length_le (by simp)]
 rw [ht]
 simp only [hch, Option.map_some]
inductive Rch (L : List StateP) (root : Int) : Int → Prop
 | root : Rch L root root
 | step {i k : Int} {s : StateP} {h : Head} : Rch L root i → L[i.toNat]? = some s → h ∈ s.heads.l → k ∈ h.kids.l → Rch L root k
open Classical in
noncomputable def reachL (L : List StateP) (root : Int) : List Int := (rangeI L.length).filter fun k => decide (Rch L root k)
structure Clo (L : List StateP) (root : Int) (out : List Int) : Prop where
 base : root ∈ out
 nodup : out.Nodup
 rch : ∀ k, k ∈ out → Rch L root k
def Kids (L : List StateP) (out : List Int) (k : Int) : Prop := ∀ s h q, L[k.toNat]? = some s → h ∈ s.heads.l → q ∈ h.kids.l → q ∈ out
theorem auto_lt {L : List StateP} {root : Int} (h : autoB L root = 0) : 0 ≤ root ∧ root < L.length ∧ L.length ≤ 4096 ∧ L.all (pstateB L) = true ∧ (L[root.toNat]?.map (·.plus)).getD false = true := by
 unfold autoB at h
 split at h
 ·simp at h
 ·rename_i hn
  split at h
  ·rename_i hy
   exact ⟨by omega, by omega, by omega, hy.2, hy.1⟩
  ·simp at h
theorem auto_kid {L : List StateP} {root : Int} (h : autoB L root = 0) {s : StateP} {hd : Head} {k : Int} (hs : s ∈ L) (hh : hd ∈ s.heads.l) (hk : k ∈ hd.kids.l) : 0 ≤ k ∧ k < L.length := by
 have h1 := (auto_lt h).2.2.2.1
 have h2 := List.all_eq_true.1 h1 s hs
 unfold pstateB at h2
 simp only [Bool.and_eq_true] at h2
 have h3 := List.all_eq_true.1 h2.1 hd hh
 unfold fitB pheadB kidsB at h3
 simp only [Bool.and_eq_true] at h3
 obtain ⟨i, hi⟩ := List.mem_iff_getElem?.1 hk
 have hl := (List.getElem?_eq_some_iff.1 hi).1
 have h4 := List.all_eq_true.1 h3.1.1.2 i (List.mem_range.2 hl)
 rw [List.getD_eq_getElem?_getD, hi] at h4
 unfold kidB at h4
 simp only [Bool.and_eq_true, decide_eq_true_eq, Option.getD_some] at h4
 exact ⟨h4.1.1, h4.1.2⟩
theorem rch_in {L : List StateP} {root : Int} (h : autoB L root = 0) {k : Int} (hr : Rch L root k) : 0 ≤ k ∧ k < L.length := by
 induction hr with
 | root => exact ⟨(auto_lt h).1, (auto_lt h).2.1⟩
 | step _ hs hh hk _ => exact auto_kid h (List.mem_of_getElem? hs) hh hk
theorem nodup_le {out : List Int} {n : Nat} (hn : out.Nodup) (h : ∀ k, k ∈ out → 0 ≤ k ∧ k < n) : out.length ≤ n := by
 have h1 : (out.map Int.toNat).Nodup := by
  rw [List.nodup_iff_pairwise_ne, List.pairwise_map]
  rw [List.nodup_iff_pairwise_ne] at hn
  exact hn.imp_of_mem fun {a b} ha hb hab he => hab (by have := h a ha; have := h b hb; omega)
 have h2 := h1.length_le_of_subset (l₂ := List.range n) (fun x hx => by
  obtain ⟨k, hk, rfl⟩ := List.mem_map.1 hx
  have := h k hk
  exact List.mem_range.2 (by omega))
 simpa using h2
theorem Clo.len {L : List StateP} {root : Int} (h : autoB L root = 0) {out : List Int} (c : Clo L root out) : 0 < out.length ∧ out.length ≤ L.length :=
 ⟨List.length_pos_of_mem c.base, nodup_le c.nodup fun k hk => rch_in h (c.rch k hk)⟩
theorem Clo.add {L : List StateP} {root i k : Int} {s : StateP} {hd : Head} {out : List Int} (c : Clo L root out) (hi : i ∈ out) (hs : L[i.toNat]? = some s) (hh : hd ∈ s.heads.l) (hk : k ∈ hd.kids.l) (hn : k ∉ out) : Clo L root (out ++ [k]) := by
 refine ⟨List.mem_append_left _ c.base, ?_, fun q hq => ?_⟩
 ·rw [List.nodup_append]
  refine ⟨c.nodup, by simp, fun a ha b hb => ?_⟩
  simp only [List.mem_singleton] at hb
  subst hb
  rintro rfl
  exact hn ha
 ·rcases List.mem_append.1 hq with hq | hq
  ·exact c.rch q hq
  ·simp only [List.mem_singleton] at hq; subst hq
   exact .step (c.rch i hi) hs hh hk
theorem Clo.start {L : List StateP} {root : Int} : Clo L root [root] := ⟨by simp, by simp, fun k hk => by simp at hk; subst hk; exact .root⟩
theorem rangeI_lt (n : Nat) : (rangeI n).Pairwise (· < ·) := by
 unfold rangeI
 rw [List.pairwise_map]
 exact List.pairwise_lt_range.imp fun h => by omega
theorem reachL_mem {L : List StateP} {root k : Int} (h : autoB L root = 0) : k ∈ reachL L root ↔ Rch L root k := by
 unfold reachL
 rw [List.mem_filter]
 simp only [decide_eq_true_eq]
 refine ⟨fun h => h.2, fun hr => ⟨?_, hr⟩⟩
 have := rch_in h hr
 unfold rangeI
 exact List.mem_map.2 ⟨k.toNat, List.mem_range.2 (by omega), by omega⟩
theorem reachL_lt {L : List StateP} {root : Int} : (reachL L root).Pairwise (· < ·) := (rangeI_lt _).filter _
theorem srt_le (l : List Int) : (srt l).Pairwise (· ≤ ·) := by
 have := List.pairwise_mergeSort (le := fun x y : Int => decide (x ≤ y)) (fun a b c h1 h2 => by simp at *; omega) (fun a b => by simp; omega) l
 exact this.imp fun h => by simpa using h
theorem Clo.srt {L : List StateP} {root : Int} (h : autoB L root = 0) {out : List Int} (c : Clo L root out) (hk : ∀ k, k ∈ out → Kids L out k) : Vm.srt out = reachL L root := by
 have hm : ∀ k, k ∈ out ↔ Rch L root k := by
  intro k
  refine ⟨c.rch k, fun hr => ?_⟩
  induction hr with
  | root => exact c.base
  | step _ hs hh hq ih => exact hk _ ih _ _ _ hs hh hq
 have hp : Vm.srt out |>.Perm (reachL L root) := by
  refine (List.mergeSort_perm _ _).trans ?_
  rw [List.perm_ext_iff_of_nodup c.nodup]
  ·intro a; rw [hm, reachL_mem h]
  ·rw [List.nodup_iff_pairwise_ne]; exact reachL_lt.imp fun h => by omega
 exact hp.eq_of_pairwise (le := (· ≤ ·)) (fun a b _ _ h1 h2 => by omega) (srt_le _) (reachL_lt.imp fun h => by omega)
theorem kids_all {L : List StateP} {out : List Int} {k : Int} {s : StateP} (e : L[k.toNat]? = some s) (h : ∀ h q, h ∈ s.heads.l.take s.heads.l.length → q ∈ h.kids.l → q ∈ out) : Kids L out k := by
 intro s' hd q hs hh hq
 rw [e] at hs; cases hs
 exact h hd q (by rw [List.take_length]; exact hh) hq
theorem kids_more {L : List StateP} {out d : List Int} {k : Int} (h : Kids L out k) : Kids L (out ++ d) k := fun s hd q hs hh hq => List.mem_append_left _ (h s hd q hs hh hq)
theorem mem_take_succ {α : Type} {l : List α} {i : Nat} {x y : α} (e : l[i]? = some x) (h : y ∈ l.take (i + 1)) : y ∈ l.take i ∨ y = x := by
 have hi := (List.getElem?_eq_some_iff.1 e).1
 rw [List.take_succ_eq_append_getElem hi, List.mem_append] at h
 rcases h with h | h
 ·exact Or.inl h
 ·rw [(List.getElem?_eq_some_iff.1 e).2] at h; simp at h; exact Or.inr h
end Go.Vm
set_option linter.unusedVariables false
namespace Go.Vm
open Go Go.Proofs
attribute [local irreducible] wpL
set_option maxRecDepth 20000 in
theorem reach_ok (L : Sl StateP) (root : Int) (hL : L.l.length < 2 ^ 60) (hs : ∀ s, s ∈ L.l → s.ok) : Pure En 12 [.agg ((AutoP.enc L root).map .p)] (.p (if autoB L.l root = 0 then .sl ((reachL L.l root).map eInt) else .nilsl)) := by
 refine pure_walk [(0, .agg ((AutoP.enc L root).map .p))] Tryz.func12 rfl rfl rfl fun g hwo hwt => ?_
 show Wc En _ (Tryz.f12.body.getD .skip) [] (Sx 62 _ _ _ _ _ _)
 unfold Tryz.f12
 simp only [Option.getD_some]
 rw [← G.ext_nil g]
 refine wc_seq (wc_reg fun K hK => ?_)
 refine x_box rfl rfl rfl rfl rfl ?_
 refine x_assign rfl rfl rfl ?_
 refine x_nil (hK _ (go_seq (wc_seq (wc_seq (wc_reg fun K hK => ?_)))))
 refine x_ldLA rfl rfl rfl isag24 sz24 rfl rfl ?_
 refine x_call rfl rfl rfl (by repeat (first | exact ho_nil | refine ho_cons (by first | rfl | exact rd_ho (by assumption)) ?_)) okf13 (auto_ok L root hL hs _) ?_
 refine x_bin rfl rfl rfl rfl rfl ?_
 refine x_nil (hK _ (go_seq ?_))
 refine xc_cond _ rfl (fun hc0 => ?_) (fun hc0 => ?_)
 ·have hz : ¬ autoB L.l root = 0 := by simpa using hc0
  refine wc_seq (wc_reg fun K hK => ?_)
  refine x_assign rfl rfl rfl ?_
  refine x_nil (hK _ (go_seq (wc_ret (go_seq_ret ?_))))
  exact x_end1 (Or.inr rfl) rfl rfl rfl rfl rfl rfl (by rw [if_neg hz])
 ·have hz : autoB L.l root = 0 := by simpa using hc0
  have hb := (auto_lt hz).2.2.1
  refine wc_skip (go_seq (wc_seq (wc_reg fun K hK => ?_)))
  refine x_mkmap rfl rfl ?_
  refine x_fa rfl rfl rfl fld24_1 rfl ?_
  refine x_ldL rfl rfl rfl isag3 rfl rfl ?_
  refine x_mapnew (Or.inr rfl) rfl hwo rfl rfl rfl rfl und71 und3 rfl rfl rfl rfl ?_
  refine x_move rfl rfl rfl ?_
  refine x_assign rfl rfl rfl ?_
  refine x_nil (hK _ (go_seq (wc_seq (wc_reg fun K hK => ?_))))
  refine x_fa rfl rfl rfl fld24_1 rfl ?_
  refine x_ldL rfl rfl rfl isag3 rfl rfl ?_
  refine x_bsA rfl rfl rfl el27 sz3 zero3 rfl rfl rfl ?_
  refine x_assign rfl rfl rfl ?_
  refine x_nil (hK _ (go_seq (wc_seq (wc_seq (wc_reg fun K hK => ?_)))))
  refine x_assign rfl rfl rfl ?_
  refine x_nil (hK _ (go_seq (wc_block ?_)))
  refine xc_loopG [(1, _), (3, _)] [(1, _)] (fun x : Nat × List Int => [(4, .arr (g.objs.length + x.2.length) 0 x.2.length x.2.length 1), (5, .p (.int .i64 x.1))]) (fun x : Nat × List Int => []) (fun x : Nat × List Int => g.ext (reachO x.2) []) (fun x : Nat × List Int => x.1 ≤ x.2.length ∧ Clo L.l root x.2 ∧ ∀ i k, i < x.1 → x.2[i]? = some k → Kids L.l x.2 k) (fun x : Nat × List Int => L.l.length - x.1) (0, [root]) (by repeat first | exact trivial | refine .intro rfl ?_) (by repeat first | exact trivial | refine .intro rfl ?_) rfl ⟨Nat.zero_le _, Clo.start, fun i k hi => absurd hi (Nat.not_lt_zero _)⟩ ?_
  rintro ⟨a, out⟩ R0 hR1_0 hR2_0 ⟨hj, hcl, hkd⟩ b rb
  dsimp only at hj hcl hkd ⊢
  have h0 := (hcl.len hz).1
  have h1 := (hcl.len hz).2
  refine wc_seq (wc_seq (wc_reg fun K hK => ?_))
  refine x_move rfl rfl rfl ?_
  refine x_move rfl rfl rfl ?_
  refine x_lenA rfl rfl rfl und27 ?_
  refine x_bin rfl rfl rfl rfl rfl ?_
  refine x_nil (hK _ (go_seq ?_))
  refine xc_cond _ rfl (fun hc1 => ?_) (fun hc1 => ?_)
  ·have hlt : a < out.length := by simp at hc1; omega
   obtain ⟨k0, ek⟩ : ∃ k0, out[a]? = some k0 := ⟨_, List.getElem?_eq_getElem hlt⟩
   have hm0 : k0 ∈ out := List.mem_of_getElem? ek
   have hr0 := rch_in hz (hcl.rch k0 hm0)
   have ek2 : (out.map eI)[0 + ((a : Nat) : Int).toNat * 1]? = some (eI k0) := by simp [ek]
   obtain ⟨s, es⟩ : ∃ s, L.l[k0.toNat]? = some s := ⟨_, List.getElem?_eq_getElem (by omega)⟩
   have hms : s ∈ L.l := List.mem_of_getElem? es
   have hsok := hs s hms
   have hhl := hsok.heads
   refine wc_skip (go_seq (wc_seq (wc_block (wc_seq ?_))))
   refine xc_drw [0, 1, 2, 3, 4, 5, 6, 7, 8, 9, 10] mixed (by kernel_rfl) fun K hK => ?_
   refine x_fa rfl rfl rfl fld24_0 rfl ?_
   refine x_ldL rfl rfl rfl isag22 rfl rfl ?_
   refine x_move rfl rfl rfl ?_
   refine x_move rfl rfl rfl ?_
   refine x_iaA rfl rfl rfl rfl und27 sz3 rfl (by omega) (by omega) ?_
   refine x_ldO rfl rfl rfl isag3 (by rw [ext_obj]; exact reachO_cells h0) ek2 ?_
   refine x_iaI rfl rfl rfl Rd.enc rfl und22 sz34 rfl hr0.1 es rfl ?_
   refine x_fa rfl rfl rfl fld34_1 rfl ?_
   refine x_ldR rfl rfl rfl isag32 rfl ?_
   refine x_len rfl rfl rfl (by first | assumption | exact Rd.enc) und32 ?_
   refine x_move rfl rfl rfl ?_
   refine x_nil (hK _ (go_seq (wc_block ?_)))
   refine xc_loopG [(1, _), (3, _), (5, _), (34, _), (35, _)] [(1, _)] (fun x : Nat × List Int => [(4, .arr (g.objs.length + x.2.length) 0 x.2.length x.2.length 1), (36, .p (.int .i64 x.1))]) (fun x : Nat × List Int => []) (fun x : Nat × List Int => g.ext (reachO x.2) []) (fun x : Nat × List Int => x.1 ≤ s.heads.l.length ∧ Clo L.l root x.2 ∧ (∃ d, x.2 = out ++ d) ∧ ∀ h q, h ∈ s.heads.l.take x.1 → q ∈ h.kids.l → q ∈ x.2) (fun x : Nat × List Int => s.heads.l.length - x.1) (0, out) (by repeat first | exact trivial | refine .intro rfl ?_) (by repeat first | exact trivial | refine .intro rfl ?_) rfl ⟨Nat.zero_le _, hcl, ⟨[], by simp⟩, fun h q hh => by simp at hh⟩ ?_
   rintro ⟨i, out1⟩ R1 hR1_1 hR2_1 ⟨hi1, hcl1, ⟨d1, hd1⟩, hkd1⟩ b rb
   dsimp only at hi1 hcl1 hd1 hkd1 ⊢
   have h01 := (hcl1.len hz).1
   have h11 := (hcl1.len hz).2
   refine wc_seq (wc_reg fun K hK => ?_)
   refine x_bin rfl rfl rfl rfl rfl ?_
   refine x_nil (hK _ (go_seq (wc_seq ?_)))
   refine xc_cond _ rfl (fun hc2 => ?_) (fun hc2 => ?_)
   ·have hlt2 : i < s.heads.l.length := by simp at hc2; omega
    obtain ⟨h, eh⟩ : ∃ h, s.heads.l[i]? = some h := ⟨_, List.getElem?_eq_getElem hlt2⟩
    have hmh : h ∈ s.heads.l := List.mem_of_getElem? eh
    have hkl := (hsok.each h hmh).kids
    refine wc_skip (go_seq (wc_seq (wc_block (wc_seq (wc_reg fun K hK => ?_)))))
    refine x_ia rfl rfl rfl (by first | assumption | exact Rd.enc) rfl und32 sz37 rfl (by assumption) rfl ?_
    refine x_ldRA rfl rfl rfl isag37 sz37 rfl ?_
    refine x_alloc rfl rfl rfl zero37 rfl ?_
    refine x_stL rfl rfl rfl sz37 rfl rfl rfl rfl ?_
    refine x_nil (hK _ (go_seq (wc_seq (wc_reg fun K hK => ?_))))
    refine x_fa rfl rfl rfl fld37_2 rfl ?_
    refine x_ldL rfl rfl rfl isag27 rfl rfl ?_
    refine x_len rfl rfl rfl (by first | assumption | exact Rd.enc) und27 ?_
    refine x_move rfl rfl rfl ?_
    refine x_nil (hK _ (go_seq (wc_block ?_)))
    refine xc_loopG [(1, _), (3, _), (5, _), (34, _), (35, _), (36, _), (41, _), (42, _)] [(1, _)] (fun x : Nat × List Int => [(4, .arr (g.objs.length + x.2.length) 0 x.2.length x.2.length 1), (43, .p (.int .i64 x.1))]) (fun x : Nat × List Int => []) (fun x : Nat × List Int => g.ext (reachO x.2) []) (fun x : Nat × List Int => x.1 ≤ h.kids.l.length ∧ Clo L.l root x.2 ∧ (∃ d, x.2 = out1 ++ d) ∧ ∀ q, q ∈ h.kids.l.take x.1 → q ∈ x.2) (fun x : Nat × List Int => h.kids.l.length - x.1) (0, out1) (by repeat first | exact trivial | refine .intro rfl ?_) (by repeat first | exact trivial | refine .intro rfl ?_) rfl ⟨Nat.zero_le _, hcl1, ⟨[], by simp⟩, fun q hq => by simp at hq⟩ ?_
    rintro ⟨j, out2⟩ R2 hR1_2 hR2_2 ⟨hi2, hcl2, ⟨d2, hd2⟩, hkd2⟩ b rb
    dsimp only at hi2 hcl2 hd2 hkd2 ⊢
    have h02 := (hcl2.len hz).1
    have h12 := (hcl2.len hz).2
    refine wc_seq (wc_reg fun K hK => ?_)
    refine x_bin rfl rfl rfl rfl rfl ?_
    refine x_nil (hK _ (go_seq (wc_seq ?_)))
    refine xc_cond _ rfl (fun hc3 => ?_) (fun hc3 => ?_)
    ·have hlt3 : j < h.kids.l.length := by simp at hc3; omega
     obtain ⟨q, eq⟩ : ∃ q, h.kids.l[j]? = some q := ⟨_, List.getElem?_eq_getElem hlt3⟩
     have hmq : q ∈ h.kids.l := List.mem_of_getElem? eq
     have hm02 : k0 ∈ out2 := by rw [hd2, hd1]; exact List.mem_append_left _ (List.mem_append_left _ hm0)
     refine wc_skip (go_seq (wc_seq (wc_block (wc_seq (wc_reg fun K hK => ?_)))))
     refine x_ia rfl rfl rfl (by first | assumption | exact Rd.enc) rfl und27 sz3 rfl (by assumption) rfl ?_
     refine x_ldR rfl rfl rfl isag3 rfl ?_
     refine x_assign rfl rfl rfl ?_
     refine x_nil (hK _ (go_seq (wc_seq (wc_reg fun K hK => ?_))))
     refine x_move rfl rfl rfl ?_
     refine x_move rfl rfl rfl ?_
     refine x_lookup rfl rfl rfl rfl rfl und71 und3 zv4 rfl (esI_ok _) (findI _ _) ?_
     refine x_not rfl rfl rfl ?_
     refine x_nil (hK _ (go_seq ?_))
     refine xc_cond _ rfl (fun hc4 => ?_) (fun hc4 => ?_)
     ·have hn : q ∉ out2 := by simpa using hc4
      refine wc_seq (wc_reg fun K hK => ?_)
      refine x_move rfl rfl rfl ?_
      refine x_move rfl rfl rfl ?_
      refine x_mapnew (Or.inl rfl) rfl hwo rfl rfl rfl rfl und71 und3 rfl (esI_ok _) rfl (findI_no hn) ?_
      refine x_nil (hK _ (go_seq (wc_reg fun K hK => ?_)))
      rw [show ∀ o, (reachO out2).set ([] : List Ob).length o = (reachO out2).set 0 o from fun _ => rfl, reachO_mark]
      refine x_move rfl rfl rfl ?_
      refine x_move rfl rfl rfl ?_
      refine x_bs rfl rfl rfl el27 sz3 zero3 rfl rfl rfl ?_
      refine x_appE (i := out2.length) (v' := .arr (g.objs.length + (out2 ++ [q]).length) 0 (out2 ++ [q]).length (out2 ++ [q]).length 1) (os' := reachO (out2 ++ [q])) rfl rfl rfl hwo rfl rfl el27 und27 zero3 inf3 rfl rfl (by show (out2.length + 1) * 8 ≤ _; omega) (reachO_cells h02) (by simp) (by rw [reachO_len h02, List.length_append]; rfl) (reachO_grow' h02) ?_
      refine x_assign rfl rfl rfl ?_
      refine x_nil (hK _ (go_blk (go_seq (wc_reg fun K hK => ?_))))
      refine x_inc rfl rfl rfl rfl (by omega) ?_
      refine x_move rfl rfl rfl ?_
      refine x_nil (hK _ ?_); clear hK K
      exact hR1_2 (j + 1, out2 ++ [q]) _ _ _ _ _ ⟨hlt3, hcl2.add hm02 es hmh hmq hn, ⟨d2 ++ [q], by rw [hd2, List.append_assoc]⟩, fun z hz2 => by rcases mem_take_succ eq hz2 with hz2 | rfl; (exact List.mem_append_left _ (hkd2 z hz2)); simp⟩ (by show h.kids.l.length - (j + 1) < h.kids.l.length - j; omega) (by repeat first | exact trivial | refine .intro rfl ?_) (by repeat first | exact trivial | refine .intro rfl ?_) rfl
     ·have hn : q ∈ out2 := by simpa using hc4
      refine wc_skip (go_blk (go_seq (wc_reg fun K hK => ?_)))
      refine x_inc rfl rfl rfl rfl (by omega) ?_
      refine x_move rfl rfl rfl ?_
      refine x_nil (hK _ ?_); clear hK K
      exact hR1_2 (j + 1, out2) _ _ _ _ _ ⟨hlt3, hcl2, ⟨d2, hd2⟩, fun z hz2 => by rcases mem_take_succ eq hz2 with hz2 | rfl; (exact hkd2 z hz2); exact hn⟩ (by show h.kids.l.length - (j + 1) < h.kids.l.length - j; omega) (by repeat first | exact trivial | refine .intro rfl ?_) (by repeat first | exact trivial | refine .intro rfl ?_) rfl
    ·have hj3 : h.kids.l.length ≤ j := by simp at hc3; omega
     refine wc_exit ?_
     refine go_seq_exit ?_
     refine hR2_2 _ _ (by simp) ?_
     refine go_blk_exit (go_blk (go_seq (wc_reg fun K hK => ?_)))
     refine x_inc rfl rfl rfl rfl (by omega) ?_
     refine x_move rfl rfl rfl ?_
     refine x_nil (hK _ ?_); clear hK K
     exact hR1_1 (i + 1, out2) _ _ _ _ _ ⟨hlt2, hcl2, ⟨d1 ++ d2, by rw [hd2, hd1, List.append_assoc]⟩, fun h2 z hh2 hz2 => by rcases mem_take_succ eh hh2 with hh2 | rfl; (rw [hd2]; exact List.mem_append_left _ (hkd1 h2 z hh2 hz2)); exact hkd2 z (by rw [List.take_of_length_le hj3]; exact hz2)⟩ (by show s.heads.l.length - (i + 1) < s.heads.l.length - i; omega) (by repeat first | exact trivial | refine .intro rfl ?_) (by repeat first | exact trivial | refine .intro rfl ?_) rfl
   ·have hj2 : s.heads.l.length ≤ i := by simp at hc2; omega
    have hk1 : Kids L.l out1 k0 := kids_all es (fun h q hh hq => hkd1 h q (by rw [List.take_of_length_le hj2]; rw [List.take_length] at hh; exact hh) hq)
    refine wc_exit ?_
    refine go_seq_exit ?_
    refine hR2_1 _ _ (by simp) ?_
    refine go_blk_exit (go_blk (go_seq (wc_reg fun K hK => ?_)))
    refine x_move rfl rfl rfl ?_
    refine x_inc rfl rfl rfl rfl (by omega) ?_
    refine x_assign rfl rfl rfl ?_
    refine x_nil (hK _ ?_); clear hK K
    exact hR1_0 (a + 1, out1) _ _ _ _ _ ⟨by show a + 1 ≤ out1.length; rw [hd1, List.length_append]; omega, hcl1, fun i2 k2 hi3 he2 => by rcases Nat.lt_succ_iff_lt_or_eq.1 hi3 with hi3 | rfl; (rw [hd1]; refine kids_more (hkd i2 k2 hi3 ?_); rw [hd1, List.getElem?_append_left (by omega)] at he2; exact he2); rw [hd1, List.getElem?_append_left hlt, ek] at he2; cases he2; exact hk1⟩ (by show L.l.length - (a + 1) < L.l.length - a; omega) (by repeat first | exact trivial | refine .intro rfl ?_) (by repeat first | exact trivial | refine .intro rfl ?_) rfl
  ·have hall : ∀ k, k ∈ out → Kids L.l out k := fun k hk => by obtain ⟨i2, hi3⟩ := List.mem_iff_getElem?.1 hk; exact hkd i2 k (by have := (List.getElem?_eq_some_iff.1 hi3).1; simp at hc1; omega) hi3
   refine wc_exit ?_
   refine go_seq_exit ?_
   refine hR2_0 _ _ (by simp) ?_
   refine go_blk_exit (go_seq (wc_seq (wc_reg fun K hK => ?_)))
   refine x_move rfl rfl rfl ?_
   refine x_callM rfl rfl rfl (by repeat (first | exact ho_nil | refine ho_cons (by first | rfl | exact rd_ho (by assumption)) ?_)) okf36 (sortI_at (by rw [ext_obj]; exact reachO_cells h0) (by omega)) ?_
   refine x_nil (hK _ (go_seq (wc_seq (wc_reg fun K hK => ?_))))
   rw [ext_set hwo, show (reachO out).set out.length (Ob.cells ((srt out).map eI)) = _ from reachO_sort h0]
   refine x_move rfl rfl rfl ?_
   refine x_assign rfl rfl rfl ?_
   refine x_nil (hK _ (go_seq (wc_ret ?_)))
   have hsl : (srt out).length = out.length := srt_len out
   have hfin := seal_reach (g := g) (os := .map (esI out) out.length :: (List.replicate (out.length - 1) .dead ++ [.cells ((srt out).map eI)])) (i := out.length) (us := srt out) hwo (by obtain ⟨n, hn⟩ : ∃ n, out.length = n + 1 := ⟨out.length - 1, by omega⟩; rw [hn, List.getElem?_cons_succ, List.getElem?_append_right (by simp)]; simp)
   rw [hsl] at hfin
   exact x_end1 (Or.inr rfl) rfl rfl rfl hfin rfl rfl (by rw [if_pos hz, hcl.srt hz hall])
end Go.Vm
