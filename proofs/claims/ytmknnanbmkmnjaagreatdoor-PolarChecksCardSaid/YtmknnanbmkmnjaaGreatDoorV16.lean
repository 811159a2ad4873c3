/- Part 16 of the texts that the claim leans on: a judgement on the program over plain values, its soundness, and contracts of functions. -/
import Derived.Test.YtmknnanbmkmnjaaGreatDoorV15
import Derived.Shelf.SortM.Plain
set_option linter.unusedVariables false
namespace Go.Vm
open Go Go.Proofs
attribute [local irreducible] wpL
set_option maxRecDepth 20000 in
theorem rightA_ok (L : Sl StateP) (root : Int) (hL : L.l.length < 2 ^ 60) (hs : ∀ s, s ∈ L.l → s.ok) : Pure En 11 [.agg ((AutoP.enc L root).map .p)] (.p (.bool (rightA L.l root))) := by
  refine pure_walk [(0, .agg ((AutoP.enc L root).map .p))] Tryz.func11 rfl rfl rfl fun g hwo hwt => ?_
  show Wc En _ (Tryz.f11.body.getD .skip) [] (Sx 191 _ _ _ _ _ _)
  unfold Tryz.f11
  simp only [Option.getD_some]
  rw [← G.ext_nil g]
  refine wc_seq ?_
  refine wc_reg fun K hK => ?_
  refine x_box rfl rfl rfl rfl rfl ?_
  refine x_assign rfl rfl rfl ?_
  refine x_nil (hK _ ?_); clear hK K
  refine go_seq ?_
  refine wc_seq ?_
  refine wc_seq ?_
  refine wc_reg fun K hK => ?_
  refine x_fa rfl rfl rfl fld24_0 rfl ?_
  refine x_ldL rfl rfl rfl isag22 rfl rfl ?_
  refine x_len rfl rfl rfl (by first | assumption | exact Rd.enc) und22 ?_
  refine x_bin rfl rfl rfl rfl rfl ?_
  refine x_moveS rfl rfl rfl (fun hg18 => ?_) (fun hg18 => ?_)
  · skip
    have hz : L.l.length = 0 := by simp only [beq_iff_eq] at hg18; omega
    refine x_skip rfl rfl ?_
    refine x_skip rfl rfl ?_
    refine x_skip rfl rfl ?_
    refine x_skip rfl rfl ?_
    refine x_pickT rfl rfl rfl rfl ?_
    refine x_move rfl rfl rfl ?_
    refine x_skip rfl rfl ?_
    refine x_skip rfl rfl ?_
    refine x_skip rfl rfl ?_
    refine x_pickT rfl rfl rfl rfl ?_
    refine x_move rfl rfl rfl ?_
    refine x_skip rfl rfl ?_
    refine x_skip rfl rfl ?_
    refine x_skip rfl rfl ?_
    refine x_skip rfl rfl ?_
    refine x_skip rfl rfl ?_
    refine x_skip rfl rfl ?_
    refine x_pickT rfl rfl rfl rfl ?_
    refine x_move rfl rfl rfl ?_
    refine x_skip rfl rfl ?_
    refine x_skip rfl rfl ?_
    refine x_skip rfl rfl ?_
    refine x_skip rfl rfl ?_
    refine x_skip rfl rfl ?_
    refine x_skip rfl rfl ?_
    refine x_skip rfl rfl ?_
    refine x_skip rfl rfl ?_
    refine x_pickT rfl rfl rfl rfl ?_
    refine x_nil (hK _ ?_); clear hK K
    refine go_seq ?_
    refine xc_cond true rfl (fun _ => ?_) (fun h => by cases h)
    refine wc_seq ?_
    refine wc_reg fun K hK => ?_
    refine x_assign rfl rfl rfl ?_
    refine x_nil (hK _ ?_); clear hK K
    refine go_seq ?_
    refine wc_ret ?_
    refine go_seq_ret ?_
    exact x_end1 (Or.inr rfl) rfl rfl rfl rfl rfl rfl (by congr 2; unfold rightA; rw [decide_eq_true hz]; rfl)
  · skip
    have hz : ¬ L.l.length = 0 := by simp only [beq_eq_false_iff_ne, ne_eq] at hg18; omega
    refine x_fa rfl rfl rfl fld24_0 rfl ?_
    refine x_ldL rfl rfl rfl isag22 rfl rfl ?_
    refine x_len rfl rfl rfl (by first | assumption | exact Rd.enc) und22 ?_
    refine x_bin rfl rfl rfl rfl rfl ?_
    refine x_pickF rfl rfl rfl rfl ?_
    refine x_moveS rfl rfl rfl (fun hg24 => ?_) (fun hg24 => ?_)
    · skip
      refine x_skip rfl rfl ?_
      refine x_skip rfl rfl ?_
      refine x_skip rfl rfl ?_
      refine x_pickT rfl rfl rfl rfl ?_
      refine x_move rfl rfl rfl ?_
      refine x_skip rfl rfl ?_
      refine x_skip rfl rfl ?_
      refine x_skip rfl rfl ?_
      refine x_skip rfl rfl ?_
      refine x_skip rfl rfl ?_
      refine x_skip rfl rfl ?_
      refine x_pickT rfl rfl rfl rfl ?_
      refine x_move rfl rfl rfl ?_
      refine x_skip rfl rfl ?_
      refine x_skip rfl rfl ?_
      refine x_skip rfl rfl ?_
      refine x_skip rfl rfl ?_
      refine x_skip rfl rfl ?_
      refine x_skip rfl rfl ?_
      refine x_skip rfl rfl ?_
      refine x_skip rfl rfl ?_
      refine x_pickT rfl rfl rfl rfl ?_
      refine x_nil (hK _ ?_); clear hK K
      refine go_seq ?_
      refine xc_cond true rfl (fun _ => ?_) (fun h => by cases h)
      refine wc_seq ?_
      refine wc_reg fun K hK => ?_
      refine x_assign rfl rfl rfl ?_
      refine x_nil (hK _ ?_); clear hK K
      refine go_seq ?_
      refine wc_ret ?_
      refine go_seq_ret ?_
      exact x_end1 (Or.inr rfl) rfl rfl rfl rfl rfl rfl (by congr 2; unfold rightA; rw [decide_eq_true (p := 4096 < L.l.length) (by simp at hg24; omega)]; simp)
    · skip
      refine x_fa rfl rfl rfl fld24_1 rfl ?_
      refine x_ldL rfl rfl rfl isag3 rfl rfl ?_
      refine x_bin rfl rfl rfl rfl rfl ?_
      refine x_pickF rfl rfl rfl rfl ?_
      refine x_moveS rfl rfl rfl (fun hg29 => ?_) (fun hg29 => ?_)
      · skip
        refine x_skip rfl rfl ?_
        refine x_skip rfl rfl ?_
        refine x_skip rfl rfl ?_
        refine x_skip rfl rfl ?_
        refine x_skip rfl rfl ?_
        refine x_skip rfl rfl ?_
        refine x_pickT rfl rfl rfl rfl ?_
        refine x_move rfl rfl rfl ?_
        refine x_skip rfl rfl ?_
        refine x_skip rfl rfl ?_
        refine x_skip rfl rfl ?_
        refine x_skip rfl rfl ?_
        refine x_skip rfl rfl ?_
        refine x_skip rfl rfl ?_
        refine x_skip rfl rfl ?_
        refine x_skip rfl rfl ?_
        refine x_pickT rfl rfl rfl rfl ?_
        refine x_nil (hK _ ?_); clear hK K
        refine go_seq ?_
        refine xc_cond true rfl (fun _ => ?_) (fun h => by cases h)
        refine wc_seq ?_
        refine wc_reg fun K hK => ?_
        refine x_assign rfl rfl rfl ?_
        refine x_nil (hK _ ?_); clear hK K
        refine go_seq ?_
        refine wc_ret ?_
        refine go_seq_ret ?_
        exact x_end1 (Or.inr rfl) rfl rfl rfl rfl rfl rfl (by congr 2; unfold rightA; rw [decide_eq_true (p := root < 0) (by simp at hg29; omega)]; simp)
      · skip
        refine x_fa rfl rfl rfl fld24_1 rfl ?_
        refine x_ldL rfl rfl rfl isag3 rfl rfl ?_
        refine x_fa rfl rfl rfl fld24_0 rfl ?_
        refine x_ldL rfl rfl rfl isag22 rfl rfl ?_
        refine x_len rfl rfl rfl (by first | assumption | exact Rd.enc) und22 ?_
        refine x_bin rfl rfl rfl rfl rfl ?_
        refine x_pickF rfl rfl rfl rfl ?_
        refine x_moveS rfl rfl rfl (fun hg37 => ?_) (fun hg37 => ?_)
        · skip
          refine x_skip rfl rfl ?_
          refine x_skip rfl rfl ?_
          refine x_skip rfl rfl ?_
          refine x_skip rfl rfl ?_
          refine x_skip rfl rfl ?_
          refine x_skip rfl rfl ?_
          refine x_skip rfl rfl ?_
          refine x_skip rfl rfl ?_
          refine x_pickT rfl rfl rfl rfl ?_
          refine x_nil (hK _ ?_); clear hK K
          refine go_seq ?_
          refine xc_cond true rfl (fun _ => ?_) (fun h => by cases h)
          refine wc_seq ?_
          refine wc_reg fun K hK => ?_
          refine x_assign rfl rfl rfl ?_
          refine x_nil (hK _ ?_); clear hK K
          refine go_seq ?_
          refine wc_ret ?_
          refine go_seq_ret ?_
          exact x_end1 (Or.inr rfl) rfl rfl rfl rfl rfl rfl (by congr 2; unfold rightA; rw [decide_eq_true (p := (L.l.length : Int) ≤ root) (by simp at hg37; omega)]; simp)
        · skip
          have h0 : 0 ≤ root := by simp at hg29; omega
          have h2 : root.toNat < L.l.length := by simp at hg37; omega
          obtain ⟨st, e2⟩ : ∃ st, L.l[root.toNat]? = some st := ⟨_, List.getElem?_eq_getElem h2⟩
          refine x_fa rfl rfl rfl fld24_0 rfl ?_
          refine x_ldL rfl rfl rfl isag22 rfl rfl ?_
          refine x_fa rfl rfl rfl fld24_1 rfl ?_
          refine x_ldL rfl rfl rfl isag3 rfl rfl ?_
          refine x_iaI rfl rfl rfl Rd.enc rfl und22 sz34 rfl h0 e2 rfl ?_
          refine x_fa rfl rfl rfl fld34_0 rfl ?_
          refine x_ldR rfl rfl rfl isag4 rfl ?_
          refine x_not rfl rfl rfl ?_
          refine x_pickF rfl rfl rfl rfl ?_
          refine x_nil (hK _ ?_); clear hK K
          refine go_seq ?_
          refine xc_cond _ rfl (fun hc0 => ?_) (fun hc0 => ?_)
          · skip
            refine wc_seq ?_
            refine wc_reg fun K hK => ?_
            refine x_assign rfl rfl rfl ?_
            refine x_nil (hK _ ?_); clear hK K
            refine go_seq ?_
            refine wc_ret ?_
            refine go_seq_ret ?_
            exact x_end1 (Or.inr rfl) rfl rfl rfl rfl rfl rfl (by congr 2; unfold rightA; have : (L.l[root.toNat]?.map (·.plus)).getD false = false := (by rw [e2]; simpa using hc0); rw [this, Bool.false_and, Bool.and_false])
          · skip
            have hpl : (L.l[root.toNat]?.map (·.plus)).getD false = true := by rw [e2]; simpa using hc0
            refine wc_skip ?_
            refine go_seq ?_
            refine wc_seq ?_
            refine wc_seq ?_
            refine wc_reg fun K hK => ?_
            refine x_fa rfl rfl rfl fld24_0 rfl ?_
            refine x_ldL rfl rfl rfl isag22 rfl rfl ?_
            refine x_len rfl rfl rfl (by first | assumption | exact Rd.enc) und22 ?_
            refine x_move rfl rfl rfl ?_
            refine x_nil (hK _ ?_); clear hK K
            refine go_seq ?_
            refine wc_block ?_
            refine xc_loopG [(1, _), (48, _), (49, _)] [(1, _)] (fun x : Nat × List Nat => [(50, .p (.int .i64 x.1))]) (fun x : Nat × List Nat => []) (fun x : Nat × List Nat => g.ext [] x.2) (fun x : Nat × List Nat => x.1 ≤ L.l.length ∧ ∀ i, i < x.1 → ∃ c, L.l[i]? = some c ∧ rightS L.l c = true) (fun x : Nat × List Nat => L.l.length - x.1) (0, []) (by repeat (first | exact trivial | refine And.intro rfl ?_)) (by repeat (first | exact trivial | refine And.intro rfl ?_)) rfl ⟨Nat.zero_le _, fun i hi => absurd hi (Nat.not_lt_zero _)⟩ ?_
            rintro ⟨j, ts⟩ R0 hR1_0 hR2_0 ⟨hj, hr⟩ b rb
            dsimp only at hj hr ⊢
            refine wc_seq ?_
            refine wc_reg fun K hK => ?_
            refine x_bin rfl rfl rfl rfl rfl ?_
            refine x_nil (hK _ ?_); clear hK K
            refine go_seq ?_
            refine wc_seq ?_
            refine xc_cond _ rfl (fun hc1 => ?_) (fun hc1 => ?_)
            · skip
              have hlt : j < L.l.length := by simp at hc1; omega
              obtain ⟨s, e1⟩ : ∃ s, L.l[j]? = some s := ⟨_, List.getElem?_eq_getElem hlt⟩
              have hm : s ∈ L.l := List.mem_of_getElem? e1
              have hk1 := (hs s hm).vars
              have hk2 := (hs s hm).heads
              refine wc_skip ?_
              refine go_seq ?_
              refine wc_seq ?_
              refine wc_block ?_
              refine wc_seq ?_
              refine wc_reg fun K hK => ?_
              refine x_ia rfl rfl rfl (by first | assumption | exact Rd.enc) rfl und22 sz34 rfl (by assumption) rfl ?_
              refine x_ldRA rfl rfl rfl isag34 sz34 rfl ?_
              refine x_alloc rfl rfl rfl zero34 rfl ?_
              refine x_stL rfl rfl rfl sz34 rfl rfl rfl rfl ?_
              refine x_nil (hK _ ?_); clear hK K
              refine go_seq ?_
              refine wc_seq ?_
              refine wc_seq ?_
              refine wc_reg fun K hK => ?_
              refine x_fa rfl rfl rfl fld34_2 rfl ?_
              refine x_ldL rfl rfl rfl isag27 rfl rfl ?_
              refine x_len rfl rfl rfl (by first | assumption | exact Rd.enc) und27 ?_
              refine x_move rfl rfl rfl ?_
              refine x_nil (hK _ ?_); clear hK K
              refine go_seq ?_
              refine wc_block ?_
              refine xc_loop [(1, _), (4, _), (48, _), (49, _), (50, _), (55, _), (56, _)] [(1, _), (4, _)] (fun i : Nat => [(57, .p (.int .i64 i))]) (fun i : Nat => i ≤ s.vars.l.length ∧ ∀ k, k < i → varOk s.vars.l k = true) (fun i : Nat => s.vars.l.length - i) 0 (by repeat (first | exact trivial | refine And.intro rfl ?_)) (by repeat (first | exact trivial | refine And.intro rfl ?_)) ⟨Nat.zero_le _, fun i hi => by omega⟩ ?_
              rintro i R1 hR1_1 hR2_1 ⟨hi, hr2⟩ b rb
              refine wc_seq ?_
              refine wc_reg fun K hK => ?_
              refine x_bin rfl rfl rfl rfl rfl ?_
              refine x_nil (hK _ ?_); clear hK K
              refine go_seq ?_
              refine wc_seq ?_
              refine xc_cond _ rfl (fun hc2 => ?_) (fun hc2 => ?_)
              · skip
                have hlt2 : i < s.vars.l.length := by simp at hc2; omega
                obtain ⟨v, e2⟩ : ∃ v, s.vars.l[i]? = some v := ⟨_, List.getElem?_eq_getElem hlt2⟩
                have e3 : s.vars.l.getD i 0 = v := by rw [List.getD_eq_getElem?_getD, e2]; rfl
                refine wc_skip ?_
                refine go_seq ?_
                refine wc_seq ?_
                refine wc_block ?_
                refine wc_seq ?_
                refine wc_reg fun K hK => ?_
                refine x_move rfl rfl rfl ?_
                refine x_ia rfl rfl rfl (by first | assumption | exact Rd.enc) rfl und27 sz3 rfl (by assumption) rfl ?_
                refine x_ldR rfl rfl rfl isag3 rfl ?_
                refine x_assign rfl rfl rfl ?_
                refine x_assign rfl rfl rfl ?_
                refine x_nil (hK _ ?_); clear hK K
                refine go_seq ?_
                refine wc_seq ?_
                refine xc_regCut [(1, _), (4, _), (48, _), (49, _), (50, _), (55, _), (56, _), (57, _)] [(1, _), (4, _)] [(77, .p (.bool (!varOk s.vars.l i)))] (by repeat (first | exact trivial | refine And.intro rfl ?_)) (by repeat (first | exact trivial | refine And.intro rfl ?_)) (fun K hK => ?_) ?_
                · skip
                  refine x_move rfl rfl rfl ?_
                  refine x_bin rfl rfl rfl rfl rfl ?_
                  refine x_moveS rfl rfl rfl (fun hg64 => ?_) (fun hg64 => ?_)
                  · skip
                    refine x_skip rfl rfl ?_
                    refine x_skip rfl rfl ?_
                    refine x_skip rfl rfl ?_
                    refine x_skip rfl rfl ?_
                    refine x_skip rfl rfl ?_
                    refine x_skip rfl rfl ?_
                    refine x_skip rfl rfl ?_
                    refine x_skip rfl rfl ?_
                    refine x_skip rfl rfl ?_
                    refine x_skip rfl rfl ?_
                    refine x_skip rfl rfl ?_
                    refine x_skip rfl rfl ?_
                    refine x_pickT rfl rfl rfl rfl ?_
                    exact x_nil (hK _ _ _ _ (by repeat (first | exact trivial | refine And.intro rfl ?_ | refine And.intro (by exact congrArg (fun b => some (V.p (PV.bool b))) (by first | (simp only [varOk, e3]; rw [decide_eq_false (p := 0 ≤ v) (by simp only [decide_eq_true_eq] at hg64; omega)]; rfl) | (simp only [varOk, e3, e6, e7]; rw [decide_eq_true (p := 0 ≤ v) (by simp only [decide_eq_false_iff_not] at hg64; omega)]; rw [Bool.eq_iff_iff]; simp; done) | (simp only [varOk, e3, e7]; rw [decide_eq_true (p := 0 ≤ v) (by simp only [decide_eq_false_iff_not] at hg64; omega)]; rfl))) ?_)) (by repeat (first | exact trivial | refine And.intro rfl ?_)))
                  · skip
                    refine x_move rfl rfl rfl ?_
                    refine x_bin rfl rfl rfl rfl rfl ?_
                    refine x_moveS rfl rfl rfl (fun hg67 => ?_) (fun hg67 => ?_)
                    · skip
                      have hi0 : 0 < i := by simp only [decide_eq_true_eq] at hg67; omega
                      obtain ⟨v1, e4⟩ : ∃ v1, s.vars.l[i - 1]? = some v1 := ⟨_, List.getElem?_eq_getElem (by omega)⟩
                      have e5 : s.vars.l[((i : Int) - 1).toNat]? = some v1 := by rw [show ((i : Int) - 1).toNat = i - 1 by omega]; exact e4
                      have e6 : s.vars.l.getD (i - 1) 0 = v1 := by rw [List.getD_eq_getElem?_getD, e4]; rfl
                      have e7 : (i == 0) = false := by simp; omega
                      refine x_fa rfl rfl rfl fld34_2 rfl ?_
                      refine x_ldL rfl rfl rfl isag27 rfl rfl ?_
                      refine x_move rfl rfl rfl ?_
                      refine x_sub rfl rfl rfl rfl (by omega) (by omega) ?_
                      refine x_iaI rfl rfl rfl Rd.enc rfl und27 sz3 rfl (by omega) e5 rfl ?_
                      refine x_ldR rfl rfl rfl isag3 rfl ?_
                      refine x_move rfl rfl rfl ?_
                      refine x_bin rfl rfl rfl rfl rfl ?_
                      refine x_pickT rfl rfl rfl rfl ?_
                      refine x_pickF rfl rfl rfl rfl ?_
                      exact x_nil (hK _ _ _ _ (by repeat (first | exact trivial | refine And.intro rfl ?_ | refine And.intro (by exact congrArg (fun b => some (V.p (PV.bool b))) (by first | (simp only [varOk, e3]; rw [decide_eq_false (p := 0 ≤ v) (by simp only [decide_eq_true_eq] at hg64; omega)]; rfl) | (simp only [varOk, e3, e6, e7]; rw [decide_eq_true (p := 0 ≤ v) (by simp only [decide_eq_false_iff_not] at hg64; omega)]; rw [Bool.eq_iff_iff]; simp; done) | (simp only [varOk, e3, e7]; rw [decide_eq_true (p := 0 ≤ v) (by simp only [decide_eq_false_iff_not] at hg64; omega)]; rfl))) ?_)) (by repeat (first | exact trivial | refine And.intro rfl ?_)))
                    · skip
                      have e7 : (i == 0) = true := by simp only [decide_eq_false_iff_not] at hg67; simp; omega
                      refine x_skip rfl rfl ?_
                      refine x_skip rfl rfl ?_
                      refine x_skip rfl rfl ?_
                      refine x_skip rfl rfl ?_
                      refine x_skip rfl rfl ?_
                      refine x_skip rfl rfl ?_
                      refine x_skip rfl rfl ?_
                      refine x_skip rfl rfl ?_
                      refine x_pickF rfl rfl rfl rfl ?_
                      refine x_pickF rfl rfl rfl rfl ?_
                      exact x_nil (hK _ _ _ _ (by repeat (first | exact trivial | refine And.intro rfl ?_ | refine And.intro (by exact congrArg (fun b => some (V.p (PV.bool b))) (by first | (simp only [varOk, e3]; rw [decide_eq_false (p := 0 ≤ v) (by simp only [decide_eq_true_eq] at hg64; omega)]; rfl) | (simp only [varOk, e3, e6, e7]; rw [decide_eq_true (p := 0 ≤ v) (by simp only [decide_eq_false_iff_not] at hg64; omega)]; rw [Bool.eq_iff_iff]; simp; done) | (simp only [varOk, e3, e7]; rw [decide_eq_true (p := 0 ≤ v) (by simp only [decide_eq_false_iff_not] at hg64; omega)]; rfl))) ?_)) (by repeat (first | exact trivial | refine And.intro rfl ?_)))
                intro b rb
                refine go_seq ?_
                refine xc_cond _ rfl (fun hc3 => ?_) (fun hc3 => ?_)
                · skip
                  have hko : varOk s.vars.l i = false := by simpa using hc3
                  refine wc_seq ?_
                  refine wc_reg fun K hK => ?_
                  refine x_assign rfl rfl rfl ?_
                  refine x_nil (hK _ ?_); clear hK K
                  refine go_seq ?_
                  refine wc_ret ?_
                  refine go_blk_ret ?_
                  refine go_seq_ret ?_
                  refine hR2_1 _ _ (by simp) ?_
                  refine go_blk_ret ?_
                  refine go_seq_ret ?_
                  refine go_blk_ret ?_
                  refine go_seq_ret ?_
                  refine hR2_0 _ _ (by simp) ?_
                  refine go_blk_ret ?_
                  refine go_seq_ret ?_
                  exact x_end1 (Or.inr rfl) rfl rfl rfl rfl rfl rfl (by rw [rightA_no hm (by unfold rightS; rw [rng_no hlt2 hko, Bool.false_and])])
                · skip
                  have hko : varOk s.vars.l i = true := by simpa using hc3
                  refine wc_skip ?_
                  refine go_blk ?_
                  refine go_seq ?_
                  refine wc_reg fun K hK => ?_
                  refine x_inc rfl rfl rfl rfl (by omega) ?_
                  refine x_move rfl rfl rfl ?_
                  refine x_nil (hK _ ?_); clear hK K
                  exact hR1_1 (i + 1) _ _ _ _ ⟨hlt2, fun q hq => by rcases Nat.lt_succ_iff_lt_or_eq.1 hq with hq | rfl; (exact hr2 q hq); exact hko⟩ (by omega) (by repeat (first | exact trivial | refine And.intro rfl ?_)) (by repeat (first | exact trivial | refine And.intro rfl ?_))
              · skip
                have hf1 : (List.range s.vars.l.length).all (varOk s.vars.l) = true := rng_yes fun q hq => hr2 q (by simp at hc2; omega)
                refine wc_exit ?_
                refine go_seq_exit ?_
                refine hR2_1 _ _ (by simp) ?_
                refine go_blk_exit ?_
                refine go_seq ?_
                refine wc_seq ?_
                refine wc_reg fun K hK => ?_
                refine x_fa rfl rfl rfl fld34_1 rfl ?_
                refine x_ldL rfl rfl rfl isag32 rfl rfl ?_
                refine x_len rfl rfl rfl (by first | assumption | exact Rd.enc) und32 ?_
                refine x_move rfl rfl rfl ?_
                refine x_nil (hK _ ?_); clear hK K
                refine go_seq ?_
                refine wc_block ?_
                refine xc_loopG [(1, _), (4, _), (48, _), (49, _), (50, _), (55, _), (56, _), (57, _), (80, _), (81, _)] [(1, _), (4, _)] (fun x : Nat × List Nat => [(82, .p (.int .i64 x.1))]) (fun x : Nat × List Nat => []) (fun x : Nat × List Nat => g.ext [] x.2) (fun x : Nat × List Nat => x.1 ≤ s.heads.l.length ∧ ∀ k, k < x.1 → headIR L.l s k = true) (fun x : Nat × List Nat => s.heads.l.length - x.1) (0, ts) (by repeat (first | exact trivial | refine And.intro rfl ?_)) (by repeat (first | exact trivial | refine And.intro rfl ?_)) rfl ⟨Nat.zero_le _, fun i hi => absurd hi (Nat.not_lt_zero _)⟩ ?_
                rintro ⟨i, ts2⟩ R2 hR1_2 hR2_2 ⟨hi2, hr3⟩ b rb
                dsimp only at hi2 hr3 ⊢
                refine wc_seq ?_
                refine wc_reg fun K hK => ?_
                refine x_bin rfl rfl rfl rfl rfl ?_
                refine x_nil (hK _ ?_); clear hK K
                refine go_seq ?_
                refine wc_seq ?_
                refine xc_cond _ rfl (fun hc4 => ?_) (fun hc4 => ?_)
                · skip
                  have hlt3 : i < s.heads.l.length := by simp at hc4; omega
                  obtain ⟨h, eh⟩ : ∃ h, s.heads.l[i]? = some h := ⟨_, List.getElem?_eq_getElem hlt3⟩
                  have hmh : h ∈ s.heads.l := List.mem_of_getElem? eh
                  have hgd := (hs s hm).each h hmh
                  have hkk := hgd.kids
                  refine wc_skip ?_
                  refine go_seq ?_
                  refine wc_seq ?_
                  refine wc_block ?_
                  refine wc_seq ?_
                  refine wc_reg fun K hK => ?_
                  refine x_move rfl rfl rfl ?_
                  refine x_ia rfl rfl rfl (by first | assumption | exact Rd.enc) rfl und32 sz37 rfl (by assumption) rfl ?_
                  refine x_ldRA rfl rfl rfl isag37 sz37 rfl ?_
                  refine x_alloc rfl rfl rfl zero37 rfl ?_
                  refine x_assign rfl rfl rfl ?_
                  refine x_stL rfl rfl rfl sz37 rfl rfl rfl rfl ?_
                  refine x_nil (hK _ ?_); clear hK K
                  refine go_seq ?_
                  refine wc_seq ?_
                  refine wc_seq ?_
                  refine xc_drwCut [0, 1, 2, 3, 4, 5, 6, 7, 8, 9, 10, 11, 12, 13] mixed (by kernel_rfl) [(1, _), (4, _), (8, _), (48, _), (49, _), (50, _), (55, _), (56, _), (57, _), (80, _), (81, _), (82, _)] [(1, _), (4, _), (8, _)] [(100, .p (.bool (!riseK s.heads.l i)))] (by repeat (first | exact trivial | refine And.intro rfl ?_)) (by repeat (first | exact trivial | refine And.intro rfl ?_)) (fun K hK => ?_) ?_
                  · skip
                    refine x_move rfl rfl rfl ?_
                    refine x_bin rfl rfl rfl rfl rfl ?_
                    refine x_moveS rfl rfl rfl (fun hg89 => ?_) (fun hg89 => ?_)
                    · skip
                      have hi0 : 0 < i := by simp only [decide_eq_true_eq] at hg89; omega
                      obtain ⟨h1, e4⟩ : ∃ h1, s.heads.l[i - 1]? = some h1 := ⟨_, List.getElem?_eq_getElem (by omega)⟩
                      have e5 : s.heads.l[((i : Int) - 1).toNat]? = some h1 := by rw [show ((i : Int) - 1).toNat = i - 1 by omega]; exact e4
                      have e7 : (i == 0) = false := by simp; omega
                      refine x_fa rfl rfl rfl fld34_1 rfl ?_
                      refine x_ldL rfl rfl rfl isag32 rfl rfl ?_
                      refine x_move rfl rfl rfl ?_
                      refine x_sub rfl rfl rfl rfl (by omega) (by omega) ?_
                      refine x_iaI rfl rfl rfl Rd.enc rfl und32 sz37 rfl (by omega) e5 rfl ?_
                      refine x_fa rfl rfl rfl fld37_0 rfl ?_
                      refine x_ldR rfl rfl rfl isag3 rfl ?_
                      refine x_fa rfl rfl rfl fld37_0 rfl ?_
                      refine x_ldL rfl rfl rfl isag3 rfl rfl ?_
                      refine x_bin rfl rfl rfl rfl rfl ?_
                      refine x_pickT rfl rfl rfl rfl ?_
                      exact x_nil (hK _ _ _ _ (by repeat (first | exact trivial | refine And.intro rfl ?_ | refine And.intro (by exact congrArg (fun b => some (V.p (PV.bool b))) (by first | (simp only [riseK, e4, eh, e7, Option.map_some, Option.getD_some, Bool.false_or]; rw [Bool.eq_iff_iff]; simp; done) | (simp only [riseK, e7]; rfl))) ?_)) (by repeat (first | exact trivial | refine And.intro rfl ?_)))
                    · skip
                      have e7 : (i == 0) = true := by simp only [decide_eq_false_iff_not] at hg89; simp; omega
                      refine x_skip rfl rfl ?_
                      refine x_skip rfl rfl ?_
                      refine x_skip rfl rfl ?_
                      refine x_skip rfl rfl ?_
                      refine x_skip rfl rfl ?_
                      refine x_skip rfl rfl ?_
                      refine x_skip rfl rfl ?_
                      refine x_skip rfl rfl ?_
                      refine x_skip rfl rfl ?_
                      refine x_skip rfl rfl ?_
                      refine x_pickF rfl rfl rfl rfl ?_
                      exact x_nil (hK _ _ _ _ (by repeat (first | exact trivial | refine And.intro rfl ?_ | refine And.intro (by exact congrArg (fun b => some (V.p (PV.bool b))) (by first | (simp only [riseK, e4, eh, e7, Option.map_some, Option.getD_some, Bool.false_or]; rw [Bool.eq_iff_iff]; simp; done) | (simp only [riseK, e7]; rfl))) ?_)) (by repeat (first | exact trivial | refine And.intro rfl ?_)))
                  intro b rb
                  refine go_seq ?_
                  refine xc_cond _ rfl (fun hc5 => ?_) (fun hc5 => ?_)
                  · skip
                    have hrk : riseK s.heads.l i = false := by simpa using hc5
                    refine wc_seq ?_
                    refine wc_reg fun K hK => ?_
                    refine x_assign rfl rfl rfl ?_
                    refine x_nil (hK _ ?_); clear hK K
                    refine go_seq ?_
                    refine wc_ret ?_
                    refine go_seq_ret ?_
                    refine go_blk_ret ?_
                    refine go_seq_ret ?_
                    refine hR2_2 _ _ (by simp) ?_
                    refine go_blk_ret ?_
                    refine go_blk_ret ?_
                    refine go_seq_ret ?_
                    refine hR2_0 _ _ (by simp) ?_
                    refine go_blk_ret ?_
                    refine go_seq_ret ?_
                    exact x_end1 (Or.inr rfl) rfl rfl rfl rfl rfl rfl (by rw [rightA_no hm (headIR_no hlt3 (by rw [headIR_at eh, hrk, Bool.false_and]))])
                  · skip
                    have hrk : riseK s.heads.l i = true := by simpa using hc5
                    refine wc_skip ?_
                    refine go_seq ?_
                    refine wc_seq ?_
                    refine xc_regCut [(1, _), (4, _), (8, _), (48, _), (49, _), (50, _), (55, _), (56, _), (57, _), (80, _), (81, _), (82, _)] [(1, _), (4, _), (8, _)] [(9, .p (.bool (aloneB s)))] (by repeat (first | exact trivial | refine And.intro rfl ?_)) (by repeat (first | exact trivial | refine And.intro rfl ?_)) (fun K hK => ?_) ?_
                    · skip
                      refine x_fa rfl rfl rfl fld34_1 rfl ?_
                      refine x_ldL rfl rfl rfl isag32 rfl rfl ?_
                      refine x_len rfl rfl rfl (by first | assumption | exact Rd.enc) und32 ?_
                      refine x_bin rfl rfl rfl rfl rfl ?_
                      refine x_moveS rfl rfl rfl (fun hg105 => ?_) (fun hg105 => ?_)
                      · skip
                        refine x_fa rfl rfl rfl fld34_2 rfl ?_
                        refine x_ldL rfl rfl rfl isag27 rfl rfl ?_
                        refine x_len rfl rfl rfl (by first | assumption | exact Rd.enc) und27 ?_
                        refine x_bin rfl rfl rfl rfl rfl ?_
                        refine x_pickT rfl rfl rfl rfl ?_
                        refine x_assign rfl rfl rfl ?_
                        exact x_nil (hK _ _ _ _ (by repeat (first | exact trivial | refine And.intro rfl ?_ | refine And.intro (by exact congrArg (fun b => some (V.p (PV.bool b))) (by simp only [aloneB]; (try rw [show ((s.heads.l.length : Int) == 1) = (s.heads.l.length == 1) by rw [Bool.eq_iff_iff]; simp; omega] at hg105); rw [hg105]; first | rfl | (rw [Bool.eq_iff_iff]; simp))) ?_)) (by repeat (first | exact trivial | refine And.intro rfl ?_)))
                      · skip
                        refine x_skip rfl rfl ?_
                        refine x_skip rfl rfl ?_
                        refine x_skip rfl rfl ?_
                        refine x_skip rfl rfl ?_
                        refine x_pickF rfl rfl rfl rfl ?_
                        refine x_assign rfl rfl rfl ?_
                        exact x_nil (hK _ _ _ _ (by repeat (first | exact trivial | refine And.intro rfl ?_ | refine And.intro (by exact congrArg (fun b => some (V.p (PV.bool b))) (by simp only [aloneB]; (try rw [show ((s.heads.l.length : Int) == 1) = (s.heads.l.length == 1) by rw [Bool.eq_iff_iff]; simp; omega] at hg105); rw [hg105]; first | rfl | (rw [Bool.eq_iff_iff]; simp))) ?_)) (by repeat (first | exact trivial | refine And.intro rfl ?_)))
                    intro b rb
                    refine go_seq ?_
                    refine wc_seq ?_
                    refine wc_seq ?_
                    refine xc_regCut [(1, _), (4, _), (8, _), (48, _), (49, _), (50, _), (55, _), (56, _), (57, _), (80, _), (81, _), (82, _)] [(1, _), (4, _), (8, _)] [(135, .p (.bool (!aloneOk s h.kind)))] (by repeat (first | exact trivial | refine And.intro rfl ?_)) (by repeat (first | exact trivial | refine And.intro rfl ?_)) (fun K hK => ?_) ?_
                    · skip
                      refine x_fa rfl rfl rfl fld37_0 rfl ?_
                      refine x_ldL rfl rfl rfl isag3 rfl rfl ?_
                      refine x_bin rfl rfl rfl rfl rfl ?_
                      refine x_moveS rfl rfl rfl (fun hg114 => ?_) (fun hg114 => ?_)
                      · skip
                        refine x_fa rfl rfl rfl fld34_0 rfl ?_
                        refine x_ldL rfl rfl rfl isag4 rfl rfl ?_
                        refine x_moveS rfl rfl rfl (fun hg117 => ?_) (fun hg117 => ?_)
                        · skip
                          refine x_move rfl rfl rfl ?_
                          refine x_pickT rfl rfl rfl rfl ?_
                          refine x_not rfl rfl rfl ?_
                          refine x_pickT rfl rfl rfl rfl ?_
                          refine x_moveS rfl rfl rfl (fun hg122 => ?_) (fun hg122 => ?_)
                          · skip
                            refine x_skip rfl rfl ?_
                            refine x_skip rfl rfl ?_
                            refine x_skip rfl rfl ?_
                            refine x_skip rfl rfl ?_
                            refine x_skip rfl rfl ?_
                            refine x_skip rfl rfl ?_
                            refine x_skip rfl rfl ?_
                            refine x_skip rfl rfl ?_
                            refine x_skip rfl rfl ?_
                            refine x_skip rfl rfl ?_
                            refine x_skip rfl rfl ?_
                            refine x_skip rfl rfl ?_
                            refine x_pickT rfl rfl rfl rfl ?_
                            exact x_nil (hK _ _ _ _ (by repeat (first | exact trivial | refine And.intro rfl ?_ | refine And.intro (by exact congrArg (fun b => some (V.p (PV.bool b))) (by simp only [aloneOk]; (try rw [hg114]); (try rw [hg117]); (try rw [hg126]); (try rw [hg130]); simp_all)) ?_)) (by repeat (first | exact trivial | refine And.intro rfl ?_)))
                          · skip
                            refine x_fa rfl rfl rfl fld37_0 rfl ?_
                            refine x_ldL rfl rfl rfl isag3 rfl rfl ?_
                            refine x_bin rfl rfl rfl rfl rfl ?_
                            refine x_moveS rfl rfl rfl (fun hg126 => ?_) (fun hg126 => ?_)
                            · skip
                              refine x_fa rfl rfl rfl fld34_0 rfl ?_
                              refine x_ldL rfl rfl rfl isag4 rfl rfl ?_
                              refine x_not rfl rfl rfl ?_
                              refine x_moveS rfl rfl rfl (fun hg130 => ?_) (fun hg130 => ?_)
                              · skip
                                refine x_move rfl rfl rfl ?_
                                refine x_pickT rfl rfl rfl rfl ?_
                                refine x_not rfl rfl rfl ?_
                                refine x_pickT rfl rfl rfl rfl ?_
                                refine x_pickF rfl rfl rfl rfl ?_
                                exact x_nil (hK _ _ _ _ (by repeat (first | exact trivial | refine And.intro rfl ?_ | refine And.intro (by exact congrArg (fun b => some (V.p (PV.bool b))) (by simp only [aloneOk]; (try rw [hg114]); (try rw [hg117]); (try rw [hg126]); (try rw [hg130]); simp_all)) ?_)) (by repeat (first | exact trivial | refine And.intro rfl ?_)))
                              · skip
                                refine x_skip rfl rfl ?_
                                refine x_pickF rfl rfl rfl rfl ?_
                                refine x_not rfl rfl rfl ?_
                                refine x_pickT rfl rfl rfl rfl ?_
                                refine x_pickF rfl rfl rfl rfl ?_
                                exact x_nil (hK _ _ _ _ (by repeat (first | exact trivial | refine And.intro rfl ?_ | refine And.intro (by exact congrArg (fun b => some (V.p (PV.bool b))) (by simp only [aloneOk]; (try rw [hg114]); (try rw [hg117]); (try rw [hg126]); (try rw [hg130]); simp_all)) ?_)) (by repeat (first | exact trivial | refine And.intro rfl ?_)))
                            · skip
                              refine x_skip rfl rfl ?_
                              refine x_skip rfl rfl ?_
                              refine x_skip rfl rfl ?_
                              refine x_skip rfl rfl ?_
                              refine x_skip rfl rfl ?_
                              refine x_skip rfl rfl ?_
                              refine x_skip rfl rfl ?_
                              refine x_pickF rfl rfl rfl rfl ?_
                              refine x_pickF rfl rfl rfl rfl ?_
                              exact x_nil (hK _ _ _ _ (by repeat (first | exact trivial | refine And.intro rfl ?_ | refine And.intro (by exact congrArg (fun b => some (V.p (PV.bool b))) (by simp only [aloneOk]; (try rw [hg114]); (try rw [hg117]); (try rw [hg126]); (try rw [hg130]); simp_all)) ?_)) (by repeat (first | exact trivial | refine And.intro rfl ?_)))
                        · skip
                          refine x_skip rfl rfl ?_
                          refine x_pickF rfl rfl rfl rfl ?_
                          refine x_not rfl rfl rfl ?_
                          refine x_pickT rfl rfl rfl rfl ?_
                          refine x_move rfl rfl rfl ?_
                          refine x_skip rfl rfl ?_
                          refine x_skip rfl rfl ?_
                          refine x_skip rfl rfl ?_
                          refine x_skip rfl rfl ?_
                          refine x_skip rfl rfl ?_
                          refine x_skip rfl rfl ?_
                          refine x_skip rfl rfl ?_
                          refine x_skip rfl rfl ?_
                          refine x_skip rfl rfl ?_
                          refine x_skip rfl rfl ?_
                          refine x_skip rfl rfl ?_
                          refine x_skip rfl rfl ?_
                          refine x_pickT rfl rfl rfl rfl ?_
                          exact x_nil (hK _ _ _ _ (by repeat (first | exact trivial | refine And.intro rfl ?_ | refine And.intro (by exact congrArg (fun b => some (V.p (PV.bool b))) (by simp only [aloneOk]; (try rw [hg114]); (try rw [hg117]); (try rw [hg126]); (try rw [hg130]); simp_all)) ?_)) (by repeat (first | exact trivial | refine And.intro rfl ?_)))
                      · skip
                        refine x_skip rfl rfl ?_
                        refine x_skip rfl rfl ?_
                        refine x_skip rfl rfl ?_
                        refine x_skip rfl rfl ?_
                        refine x_skip rfl rfl ?_
                        refine x_skip rfl rfl ?_
                        refine x_pickF rfl rfl rfl rfl ?_
                        refine x_move rfl rfl rfl ?_
                        refine x_fa rfl rfl rfl fld37_0 rfl ?_
                        refine x_ldL rfl rfl rfl isag3 rfl rfl ?_
                        refine x_bin rfl rfl rfl rfl rfl ?_
                        refine x_moveS rfl rfl rfl (fun hg126 => ?_) (fun hg126 => ?_)
                        · skip
                          refine x_fa rfl rfl rfl fld34_0 rfl ?_
                          refine x_ldL rfl rfl rfl isag4 rfl rfl ?_
                          refine x_not rfl rfl rfl ?_
                          refine x_moveS rfl rfl rfl (fun hg130 => ?_) (fun hg130 => ?_)
                          · skip
                            refine x_move rfl rfl rfl ?_
                            refine x_pickT rfl rfl rfl rfl ?_
                            refine x_not rfl rfl rfl ?_
                            refine x_pickT rfl rfl rfl rfl ?_
                            refine x_pickF rfl rfl rfl rfl ?_
                            exact x_nil (hK _ _ _ _ (by repeat (first | exact trivial | refine And.intro rfl ?_ | refine And.intro (by exact congrArg (fun b => some (V.p (PV.bool b))) (by simp only [aloneOk]; (try rw [hg114]); (try rw [hg117]); (try rw [hg126]); (try rw [hg130]); simp_all)) ?_)) (by repeat (first | exact trivial | refine And.intro rfl ?_)))
                          · skip
                            refine x_skip rfl rfl ?_
                            refine x_pickF rfl rfl rfl rfl ?_
                            refine x_not rfl rfl rfl ?_
                            refine x_pickT rfl rfl rfl rfl ?_
                            refine x_pickF rfl rfl rfl rfl ?_
                            exact x_nil (hK _ _ _ _ (by repeat (first | exact trivial | refine And.intro rfl ?_ | refine And.intro (by exact congrArg (fun b => some (V.p (PV.bool b))) (by simp only [aloneOk]; (try rw [hg114]); (try rw [hg117]); (try rw [hg126]); (try rw [hg130]); simp_all)) ?_)) (by repeat (first | exact trivial | refine And.intro rfl ?_)))
                        · skip
                          refine x_skip rfl rfl ?_
                          refine x_skip rfl rfl ?_
                          refine x_skip rfl rfl ?_
                          refine x_skip rfl rfl ?_
                          refine x_skip rfl rfl ?_
                          refine x_skip rfl rfl ?_
                          refine x_skip rfl rfl ?_
                          refine x_pickF rfl rfl rfl rfl ?_
                          refine x_pickF rfl rfl rfl rfl ?_
                          exact x_nil (hK _ _ _ _ (by repeat (first | exact trivial | refine And.intro rfl ?_ | refine And.intro (by exact congrArg (fun b => some (V.p (PV.bool b))) (by simp only [aloneOk]; (try rw [hg114]); (try rw [hg117]); (try rw [hg126]); (try rw [hg130]); simp_all)) ?_)) (by repeat (first | exact trivial | refine And.intro rfl ?_)))
                    intro b rb
                    refine go_seq ?_
                    refine xc_cond _ rfl (fun hc6 => ?_) (fun hc6 => ?_)
                    · skip
                      have hao : aloneOk s h.kind = false := by simpa using hc6
                      refine wc_seq ?_
                      refine wc_reg fun K hK => ?_
                      refine x_assign rfl rfl rfl ?_
                      refine x_nil (hK _ ?_); clear hK K
                      refine go_seq ?_
                      refine wc_ret ?_
                      refine go_seq_ret ?_
                      refine go_blk_ret ?_
                      refine go_seq_ret ?_
                      refine hR2_2 _ _ (by simp) ?_
                      refine go_blk_ret ?_
                      refine go_blk_ret ?_
                      refine go_seq_ret ?_
                      refine hR2_0 _ _ (by simp) ?_
                      refine go_blk_ret ?_
                      refine go_seq_ret ?_
                      exact x_end1 (Or.inr rfl) rfl rfl rfl rfl rfl rfl (by rw [rightA_no hm (headIR_no hlt3 (by rw [headIR_at eh]; unfold headR; rw [hao, Bool.false_and, Bool.and_false]))])
                    · skip
                      have hao : aloneOk s h.kind = true := by simpa using hc6
                      refine wc_skip ?_
                      refine go_seq ?_
                      refine wc_seq ?_
                      refine wc_reg fun K hK => ?_
                      refine x_fa rfl rfl rfl fld37_0 rfl ?_
                      refine x_ldL rfl rfl rfl isag3 rfl rfl ?_
                      refine x_fa rfl rfl rfl fld37_1 rfl ?_
                      refine x_ldL rfl rfl rfl isag35 rfl rfl ?_
                      refine x_fa rfl rfl rfl fld37_3 rfl ?_
                      refine x_ldL rfl rfl rfl isag4 rfl rfl ?_
                      refine x_buildU rfl rfl zero37 rfl pl37 rfl ?_
                      refine x_allocG rfl rfl rfl zero37 rfl fun G10 => ?_
                      refine x_stL rfl rfl rfl sz37 rfl rfl rfl rfl ?_
                      refine x_nil (hK _ ?_); clear hK K
                      refine go_seq ?_
                      refine wc_seq ?_
                      refine wc_seq ?_
                      refine wc_reg fun K hK => ?_
                      refine x_fa rfl rfl rfl fld37_2 rfl ?_
                      refine x_ldL rfl rfl rfl isag27 rfl rfl ?_
                      refine x_len rfl rfl rfl (by first | assumption | exact Rd.enc) und27 ?_
                      refine x_move rfl rfl rfl ?_
                      refine x_nil (hK _ ?_); clear hK K
                      refine go_seq ?_
                      refine wc_block ?_
                      refine xc_loopG [(1, _), (4, _), (8, _), (10, _), (48, _), (49, _), (50, _), (55, _), (56, _), (57, _), (80, _), (81, _), (82, _), (144, _), (145, _)] [(1, _), (4, _), (8, _)] (fun k : Nat => [(146, .p (.int .i64 k))]) (fun k : Nat => [(10, (G10, headRow h (accW (g.toks.length + ts2.length) 1 (List.replicate k [V.p (.int .i64 0)]))))]) (fun k : Nat => g.ext [] (tsA ts2 k)) (fun k : Nat => k ≤ h.kids.l.length ∧ ∀ q, q < k → kidR L.l s.plus h.kind q (h.kids.l.getD q 0) = true) (fun k : Nat => h.kids.l.length - k) 0 (by repeat (first | exact trivial | refine And.intro rfl ?_)) (by repeat (first | exact trivial | refine And.intro rfl ?_)) rfl ⟨Nat.zero_le _, fun i hi => absurd hi (Nat.not_lt_zero _)⟩ ?_
                      rintro k R3 hR1_3 hR2_3 ⟨hi4, hr4⟩ b rb
                      refine wc_seq ?_
                      refine wc_reg fun K hK => ?_
                      refine x_bin rfl rfl rfl rfl rfl ?_
                      refine x_nil (hK _ ?_); clear hK K
                      refine go_seq ?_
                      refine wc_seq ?_
                      refine xc_cond _ rfl (fun hc7 => ?_) (fun hc7 => ?_)
                      · skip
                        have hlt4 : k < h.kids.l.length := by simp at hc7; omega
                        obtain ⟨z, ez⟩ : ∃ z, h.kids.l[k]? = some z := ⟨_, List.getElem?_eq_getElem hlt4⟩
                        have ez3 : h.kids.l.getD k 0 = z := by rw [List.getD_eq_getElem?_getD, ez]; rfl
                        refine wc_skip ?_
                        refine go_seq ?_
                        refine wc_seq ?_
                        refine wc_block ?_
                        refine wc_seq ?_
                        refine wc_reg fun K hK => ?_
                        refine x_move rfl rfl rfl ?_
                        refine x_ia rfl rfl rfl (by first | assumption | exact Rd.enc) rfl und27 sz3 rfl (by assumption) rfl ?_
                        refine x_ldR rfl rfl rfl isag3 rfl ?_
                        refine x_assign rfl rfl rfl ?_
                        refine x_assign rfl rfl rfl ?_
                        refine x_nil (hK _ ?_); clear hK K
                        refine go_seq ?_
                        refine wc_seq ?_
                        refine wc_seq ?_
                        refine xc_regCut [(1, _), (4, _), (8, _), (10, _), (11, _), (12, _), (48, _), (49, _), (50, _), (55, _), (56, _), (57, _), (80, _), (81, _), (82, _), (144, _), (145, _), (146, _)] [(1, _), (4, _), (8, _), (10, _)] [(159, .p (.bool (!inR L.l.length z)))] (by repeat (first | exact trivial | refine And.intro rfl ?_)) (by repeat (first | exact trivial | refine And.intro rfl ?_)) (fun K hK => ?_) ?_
                        · skip
                          refine x_move rfl rfl rfl ?_
                          refine x_bin rfl rfl rfl rfl rfl ?_
                          refine x_moveS rfl rfl rfl (fun hg153 => ?_) (fun hg153 => ?_)
                          · skip
                            refine x_skip rfl rfl ?_
                            refine x_skip rfl rfl ?_
                            refine x_skip rfl rfl ?_
                            refine x_skip rfl rfl ?_
                            refine x_skip rfl rfl ?_
                            refine x_pickT rfl rfl rfl rfl ?_
                            exact x_nil (hK _ _ _ _ (by repeat (first | exact trivial | refine And.intro rfl ?_ | refine And.intro (by exact congrArg (fun b => some (V.p (PV.bool b))) (by simp only [inR]; first | (rw [decide_eq_false (p := 0 ≤ z) (by simp only [decide_eq_true_eq] at hg153; omega)]; rfl) | (rw [decide_eq_true (p := 0 ≤ z) (by simp only [decide_eq_false_iff_not] at hg153; omega)]; rw [Bool.eq_iff_iff]; simp))) ?_)) (by repeat (first | exact trivial | refine And.intro rfl ?_)))
                          · skip
                            refine x_move rfl rfl rfl ?_
                            refine x_fa rfl rfl rfl fld24_0 rfl ?_
                            refine x_ldL rfl rfl rfl isag22 rfl rfl ?_
                            refine x_len rfl rfl rfl (by first | assumption | exact Rd.enc) und22 ?_
                            refine x_bin rfl rfl rfl rfl rfl ?_
                            refine x_pickF rfl rfl rfl rfl ?_
                            exact x_nil (hK _ _ _ _ (by repeat (first | exact trivial | refine And.intro rfl ?_ | refine And.intro (by exact congrArg (fun b => some (V.p (PV.bool b))) (by simp only [inR]; first | (rw [decide_eq_false (p := 0 ≤ z) (by simp only [decide_eq_true_eq] at hg153; omega)]; rfl) | (rw [decide_eq_true (p := 0 ≤ z) (by simp only [decide_eq_false_iff_not] at hg153; omega)]; rw [Bool.eq_iff_iff]; simp))) ?_)) (by repeat (first | exact trivial | refine And.intro rfl ?_)))
                        intro b rb
                        refine go_seq ?_
                        refine xc_cond _ rfl (fun hc8 => ?_) (fun hc8 => ?_)
                        · skip
                          have hin : inR L.l.length z = false := by simpa using hc8
                          refine wc_seq ?_
                          refine wc_reg fun K hK => ?_
                          refine x_assign rfl rfl rfl ?_
                          refine x_nil (hK _ ?_); clear hK K
                          refine go_seq ?_
                          refine wc_ret ?_
                          refine go_seq_ret ?_
                          refine go_blk_ret ?_
                          refine go_seq_ret ?_
                          refine hR2_3 _ _ (by simp) ?_
                          refine go_blk_ret ?_
                          refine go_seq_ret ?_
                          refine go_blk_ret ?_
                          refine go_seq_ret ?_
                          refine hR2_2 _ _ (by simp) ?_
                          refine go_blk_ret ?_
                          refine go_blk_ret ?_
                          refine go_seq_ret ?_
                          refine hR2_0 _ _ (by simp) ?_
                          refine go_blk_ret ?_
                          refine go_seq_ret ?_
                          exact x_end1 (Or.inr rfl) rfl rfl rfl rfl rfl rfl (by rw [rightA_no hm (headIR_no hlt3 (by rw [headIR_at eh]; unfold headR; rw [rng_no hlt4 (by rw [ez3]; unfold kidR; unfold inR at hin; rw [hin, Bool.false_and]), Bool.false_and, Bool.and_false, Bool.and_false]))])
                        · skip
                          have hin : inR L.l.length z = true := by simpa using hc8
                          have hz0 : 0 ≤ z := by simp [inR] at hin; omega
                          have hzl : z < L.l.length := by simp [inR] at hin; omega
                          obtain ⟨st2, es2⟩ : ∃ st2, L.l[z.toNat]? = some st2 := ⟨_, List.getElem?_eq_getElem (by omega)⟩
                          have hkr : kidR L.l s.plus h.kind k z = !(st2.plus == (s.plus == (h.kind == 7 && k == 0))) := by simp only [kidR, hz0, hzl, decide_true, Bool.true_and, es2, Option.map_some, Option.getD_some]
                          refine wc_skip ?_
                          refine go_seq ?_
                          refine wc_seq ?_
                          refine xc_regCut [(1, _), (4, _), (8, _), (10, _), (12, _), (48, _), (49, _), (50, _), (55, _), (56, _), (57, _), (80, _), (81, _), (82, _), (144, _), (145, _), (146, _)] [(1, _), (4, _), (8, _), (10, _)] [(13, .p (.bool (h.kind == 7 && k == 0)))] (by repeat (first | exact trivial | refine And.intro rfl ?_)) (by repeat (first | exact trivial | refine And.intro rfl ?_)) (fun K hK => ?_) ?_
                          · skip
                            refine x_fa rfl rfl rfl fld37_0 rfl ?_
                            refine x_ldL rfl rfl rfl isag3 rfl rfl ?_
                            refine x_bin rfl rfl rfl rfl rfl ?_
                            refine x_moveS rfl rfl rfl (fun hg163 => ?_) (fun hg163 => ?_)
                            · skip
                              refine x_move rfl rfl rfl ?_
                              refine x_bin rfl rfl rfl rfl rfl ?_
                              refine x_pickT rfl rfl rfl rfl ?_
                              refine x_assign rfl rfl rfl ?_
                              exact x_nil (hK _ _ _ _ (by repeat (first | exact trivial | refine And.intro rfl ?_ | refine And.intro (by exact congrArg (fun b => some (V.p (PV.bool b))) (by rw [hg163]; first | rfl | (rw [Bool.eq_iff_iff]; simp))) ?_)) (by repeat (first | exact trivial | refine And.intro rfl ?_)))
                            · skip
                              refine x_skip rfl rfl ?_
                              refine x_skip rfl rfl ?_
                              refine x_pickF rfl rfl rfl rfl ?_
                              refine x_assign rfl rfl rfl ?_
                              exact x_nil (hK _ _ _ _ (by repeat (first | exact trivial | refine And.intro rfl ?_ | refine And.intro (by exact congrArg (fun b => some (V.p (PV.bool b))) (by rw [hg163]; first | rfl | (rw [Bool.eq_iff_iff]; simp))) ?_)) (by repeat (first | exact trivial | refine And.intro rfl ?_)))
                          intro b rb
                          refine go_seq ?_
                          refine wc_seq ?_
                          refine wc_seq ?_
                          refine xc_drw [0, 1, 2, 3, 4, 5, 6, 7, 8, 9, 10] mixed (by kernel_rfl) fun K hK => ?_
                          refine x_fa rfl rfl rfl fld24_0 rfl ?_
                          refine x_ldL rfl rfl rfl isag22 rfl rfl ?_
                          refine x_move rfl rfl rfl ?_
                          refine x_iaI rfl rfl rfl Rd.enc rfl und22 sz34 rfl hz0 es2 rfl ?_
                          refine x_fa rfl rfl rfl fld34_0 rfl ?_
                          refine x_ldR rfl rfl rfl isag4 rfl ?_
                          refine x_fa rfl rfl rfl fld34_0 rfl ?_
                          refine x_ldL rfl rfl rfl isag4 rfl rfl ?_
                          refine x_move rfl rfl rfl ?_
                          refine x_bin rfl rfl rfl rfl rfl ?_
                          refine x_bin rfl rfl rfl rfl rfl ?_
                          refine x_nil (hK _ ?_); clear hK K
                          refine go_seq ?_
                          refine xc_cond _ rfl (fun hc9 => ?_) (fun hc9 => ?_)
                          · skip
                            have hkf : kidR L.l s.plus h.kind k z = false := by rw [hkr, hc9]; rfl
                            refine wc_seq ?_
                            refine wc_reg fun K hK => ?_
                            refine x_assign rfl rfl rfl ?_
                            refine x_nil (hK _ ?_); clear hK K
                            refine go_seq ?_
                            refine wc_ret ?_
                            refine go_seq_ret ?_
                            refine go_blk_ret ?_
                            refine go_seq_ret ?_
                            refine hR2_3 _ _ (by simp) ?_
                            refine go_blk_ret ?_
                            refine go_seq_ret ?_
                            refine go_blk_ret ?_
                            refine go_seq_ret ?_
                            refine hR2_2 _ _ (by simp) ?_
                            refine go_blk_ret ?_
                            refine go_blk_ret ?_
                            refine go_seq_ret ?_
                            refine hR2_0 _ _ (by simp) ?_
                            refine go_blk_ret ?_
                            refine go_seq_ret ?_
                            exact x_end1 (Or.inr rfl) rfl rfl rfl rfl rfl rfl (by rw [rightA_no hm (headIR_no hlt3 (by rw [headIR_at eh]; unfold headR; rw [rng_no hlt4 (by rw [ez3]; exact hkf), Bool.false_and, Bool.and_false, Bool.and_false]))])
                          · skip
                            have hkt : kidR L.l s.plus h.kind k z = true := by rw [hkr, hc9]; rfl
                            refine wc_skip ?_
                            refine go_seq ?_
                            refine wc_reg fun K hK => ?_
                            refine x_fa rfl rfl rfl fld37_2 rfl ?_
                            refine x_ldL rfl rfl rfl isag27 rfl rfl ?_
                            refine x_bs rfl rfl rfl el27 sz3 zero3 rfl rfl rfl ?_
                            refine x_app (i := ts2.length) rfl rfl rfl hwt rfl rfl el27 und27 zero3 inf3 rfl rows0 rfl (by show ((List.replicate k _).length + 1) * 8 ≤ _; rw [List.length_replicate]; omega) (by show accS _ _ (List.replicate k _).length 1 = _; rw [List.length_replicate]; exact accS_a ts2 k) ?_
                            refine x_fa rfl rfl rfl fld37_2 rfl ?_
                            refine x_stL rfl rfl rfl sz27 rfl rfl rfl rfl ?_
                            refine x_nil (hK _ ?_); clear hK K
                            refine go_blk ?_
                            refine go_seq ?_
                            refine wc_reg fun K hK => ?_
                            refine x_inc rfl rfl rfl rfl (by omega) ?_
                            refine x_move rfl rfl rfl ?_
                            refine x_nil (hK _ ?_); clear hK K
                            exact hR1_3 (k + 1) _ _ _ _ _ ⟨hlt4, fun q hq => by rcases Nat.lt_succ_iff_lt_or_eq.1 hq with hq | rfl; (exact hr4 q hq); rw [ez3]; exact hkt⟩ (by omega) (by repeat (first | exact trivial | refine And.intro rfl ?_)) (by repeat (first | exact trivial | refine And.intro rfl ?_ | refine And.intro (by simp only [accR_succ]; rfl) ?_)) rfl
                      · skip
                        have hall : ((List.range h.kids.l.length).all fun q => kidR L.l s.plus h.kind q (h.kids.l.getD q 0)) = true := rng_yes fun q hq => hr4 q (by simp at hc7; omega)
                        obtain rfl : k = h.kids.l.length := by simp at hc7; omega
                        refine wc_exit ?_
                        refine go_seq_exit ?_
                        refine hR2_3 _ _ (by simp) ?_
                        refine go_blk_exit ?_
                        refine go_seq ?_
                        refine wc_seq ?_
                        refine wc_reg fun K hK => ?_
                        refine x_ldLA rfl rfl rfl isag37 sz37 rfl rfl ?_
                        refine x_bs rfl rfl rfl el32 sz37 zero37 rfl rfl (fillH one_acc0 rfl) ?_
                        refine x_buildU rfl rfl zero40 rfl pl40 rfl ?_
                        refine x_call rfl rfl rfl (by repeat (first | exact ho_nil | refine ho_cons (by first | rfl | exact rd_ho (by assumption)) ?_)) okf17 (frz fz_head (rightG_ok (Sl.of [flat h]) 0 (by show 1 < _; omega) (fun q hq => by simp only [Sl.of, List.mem_singleton] at hq; subst hq; exact ⟨hgd.names, hgd.each, by show (List.replicate _ _).length < _; simpa using hkk⟩) _)) ?_
                        refine x_not rfl rfl rfl ?_
                        refine x_nil (hK _ ?_); clear hK K
                        refine go_seq ?_
                        refine xc_cond _ rfl (fun hc10 => ?_) (fun hc10 => ?_)
                        · skip
                          have hg0 : rightG [flat h] 0 = false := by rw [Bool.not_eq_true'] at hc10; exact hc10
                          refine wc_seq ?_
                          refine wc_reg fun K hK => ?_
                          refine x_assign rfl rfl rfl ?_
                          refine x_nil (hK _ ?_); clear hK K
                          refine go_seq ?_
                          refine wc_ret ?_
                          refine go_blk_ret ?_
                          refine go_seq_ret ?_
                          refine hR2_2 _ _ (by simp) ?_
                          refine go_blk_ret ?_
                          refine go_blk_ret ?_
                          refine go_seq_ret ?_
                          refine hR2_0 _ _ (by simp) ?_
                          refine go_blk_ret ?_
                          refine go_seq_ret ?_
                          exact x_end1 (Or.inr rfl) rfl rfl rfl rfl rfl rfl (by rw [rightA_no hm (headIR_no hlt3 (by rw [headIR_at eh]; unfold headR; rw [hg0, Bool.and_false, Bool.and_false, Bool.and_false]))])
                        · skip
                          have hg0 : rightG [flat h] 0 = true := by rw [Bool.not_eq_false'] at hc10; exact hc10
                          refine wc_skip ?_
                          refine go_blk ?_
                          refine go_seq ?_
                          refine wc_reg fun K hK => ?_
                          refine x_inc rfl rfl rfl rfl (by omega) ?_
                          refine x_move rfl rfl rfl ?_
                          refine x_nil (hK _ ?_); clear hK K
                          exact hR1_2 (i + 1, tsA ts2 h.kids.l.length) _ _ _ _ _ ⟨hlt3, fun q hq => by rcases Nat.lt_succ_iff_lt_or_eq.1 hq with hq | rfl; (exact hr3 q hq); rw [headIR_at eh]; unfold headR; rw [hrk, hao, hall, hg0]; rfl⟩ (by show s.heads.l.length - (i + 1) < s.heads.l.length - i; omega) (by repeat (first | exact trivial | refine And.intro rfl ?_)) (by repeat (first | exact trivial | refine And.intro rfl ?_)) rfl
                · skip
                  have hf2 : (List.range s.heads.l.length).all (headIR L.l s) = true := rng_yes fun q hq => hr3 q (by simp at hc4; omega)
                  refine wc_exit ?_
                  refine go_seq_exit ?_
                  refine hR2_2 _ _ (by simp) ?_
                  refine go_blk_exit ?_
                  refine go_blk ?_
                  refine go_seq ?_
                  refine wc_reg fun K hK => ?_
                  refine x_inc rfl rfl rfl rfl (by omega) ?_
                  refine x_move rfl rfl rfl ?_
                  refine x_nil (hK _ ?_); clear hK K
                  exact hR1_0 (j + 1, ts2) _ _ _ _ _ ⟨hlt, leadP_up (p := rightS L.l) hr e1 (by unfold rightS; rw [hf1, hf2]; rfl)⟩ (by show L.l.length - (j + 1) < L.l.length - j; omega) (by repeat (first | exact trivial | refine And.intro rfl ?_)) (by repeat (first | exact trivial | refine And.intro rfl ?_)) rfl
            · skip
              refine wc_exit ?_
              refine go_seq_exit ?_
              refine hR2_0 _ _ (by simp) ?_
              refine go_blk_exit ?_
              refine go_seq ?_
              refine wc_seq ?_
              refine wc_reg fun K hK => ?_
              refine x_assign rfl rfl rfl ?_
              refine x_nil (hK _ ?_); clear hK K
              refine go_seq ?_
              refine wc_ret ?_
              exact x_end1 (Or.inr rfl) rfl rfl rfl rfl rfl rfl (by congr 2; have e : L.l.all (rightS L.l) = true := all_lead fun q hq => hr q (by simp at hc1; omega); unfold rightA; rw [e, hpl, decide_eq_false hz, decide_eq_false (p := 4096 < L.l.length) (by simp at hg24; omega), decide_eq_false (p := root < 0) (by simp at hg29; omega), decide_eq_false (p := (L.l.length : Int) ≤ root) (by simp at hg37; omega)]; rfl)
end Go.Vm
set_option linter.unusedVariables false
namespace Go.Vm
open Go
theorem arr_sound {E : Env} {v : Vw} {w w1 w' : World} {g : G} (W : WR E v g w) (hwo : g.wo ≤ g.objs.length) (hwt : g.wt ≤ g.toks.length) {id : Nat} {o o0 : Ob} {O : Obj} (hid : g.objs[id]? = some o0) (hl : o0.live = true)
    (k : Wrote w w1 (v.rho id) O) (hsz : ∀ C' e fr, O = .cells C' e fr → ∃ C e fr, w.heap[v.rho id]? = some (.cells C e fr) ∧ C'.size = C.size) (ho : RepO v o (some O)) (hg : HLe w1 w') {r : V} {y : Value} (hr : RepV v noLc r y)
    {Q : V → G → Prop} (hq : Q r (g.setObj id o)) : CallQ E v w g Q (.returned y) w' := by
  have hidl := (List.getElem?_eq_some_iff.1 hid).1
  have R0 : Rl E v w g v noLc (enter E default 0 [] g) { tmps := (#[] : Array Value) ++ Array.replicate ((default : Func).ntmps - 0) undef, defers := [] } w :=
    enter_ok (args := []) (ys := #[]) W ⟨rfl, fun i x y h => by simp at h⟩ default 0 (Nat.zero_le _)
  have R1 := R0.storeO W.base (id := id) (o := o) (O := O) hidl ⟨o0, hid, hl⟩ k hsz ho
  have R2 := R1.hle W.base hg
  refine ⟨r, y, v, _, rfl, hq, ?_, hr, R2.S.ext, ⟨_, R2.S, rfl, rfl, ?_, ?_, ?_, ?_⟩⟩
  · have W2 := R2.W
    exact ⟨W2.sg, W2.nobj, W2.toks, W2.obj, W2.inj, W2.osz, W2.osg, W2.tk, W2.tinj, W2.glob⟩
  · show min g.wo id ≤ min g.objs.length id; omega
  · show min g.wo id ≤ g.wo; omega
  · show g.wt ≤ g.toks.length; exact hwt
  · exact Nat.le_refl _
end Go.Vm
set_option linter.unusedVariables false
namespace Go.Vm
open Go Go.Proofs Go.Sort
def srt (us : List Int) : List Int := us.mergeSort fun x y => decide (x ≤ y)
theorem srt_len (us : List Int) : (srt us).length = us.length := List.length_mergeSort us
theorem put_wrote {w : World} {blk off n : Nat} {d : Array Int} {C : Array Value} {e : TypeId} {fr : Nat × Nat} (h : w.heap[blk]? = some (.cells C e fr)) :
    Wrote w (putRow (Value.int .i64) (Sort.ahead w n) blk off d) blk (.cells (putCells (Value.int .i64) off d C) e fr) := by
  refine ⟨?_, fun c hc => ?_, ?_, rfl, rfl, rfl⟩
  · simp only [putRow, mapBlock, Sort.ahead, Array.getElem?_modify, if_true, h, Option.map_some, onCells]
  · simp only [putRow, mapBlock, Sort.ahead, Array.getElem?_modify]
    rw [if_neg (fun e => hc e.symm)]
  · simp [putRow, mapBlock, Sort.ahead]
theorem sortI_sound {E : Env} {ρ : Go.Shelf.Ren} (Ly : SlLaysM.n5 E.P ρ) {g : G} {id cap : Nat} {us : List Int} (ho : g.objs[id]? = some (.cells (us.map eI))) (hu : us.length < 2 ^ 60) :
    Sound E (.call (ρ.f 5) [.arr id 0 us.length cap 1] g fun r g' => r = .tup [] ∧ g' = g.setObj id (.cells ((srt us).map eI))) := by
  intro v w ys W hwo hwt ha
  have hsz : ys.size = 1 := ha.1.symm
  obtain ⟨y, rfl⟩ : ∃ y, ys = #[y] := by
    refine ⟨ys[0], ?_⟩
    apply Array.ext (by simp [hsz])
    intro i h1 h2
    have : i = 0 := by simp at h2; omega
    subst this; simp
  have hy : RepA v (.arr id 0 us.length cap 1) y := ha.2 0 _ _ rfl rfl
  cases hy with
  | cell hy =>
    cases hy with
    | @arr _ _ _ _ _ c a h1 h2 h3 h4 h5 h6 =>
      obtain ⟨b, off, sp⟩ := a
      simp only at h1 h3 h4
      subst h1 h3
      have hO := W.obj id _ ho
      generalize hx : w.heap[v.rho id]? = X at hO
      cases hO with
      | @cells _ ds C e fr hfr hR =>
        have hlt := get_lt hx
        have hCl : C.toList.length = us.length + ds.length := by rw [← hR.1]; simp
        have hoff : us.length ≠ 0 → off = 0 := fun hne => (h4 (by omega)).1
        have hcell : ∀ j (hj : j < us.length), C[off + j]? = some (Value.int .i64 us[j]) := by
          intro j hj
          have h0 := hoff (by omega)
          subst h0
          have e1 : (us.map eI ++ ds)[j]? = some (eI us[j]) := by rw [List.getElem?_append_left (by simpa using hj)]; simp [hj]
          obtain ⟨y, q1, q2⟩ := hR.getElem e1
          rw [Nat.zero_add]
          have q3 : C[j]? = some y := by simpa using q1
          rw [q3]
          cases q2 with
          | p q2 => cases q2; rfl
        have hH : Holds (Value.int .i64) w (v.rho id) off us.toArray := by
          intro j hj
          simp only [List.size_toArray] at hj
          rw [cell_of hx]
          refine ⟨?_, ?_⟩
          · rw [hcell j hj]; simp [hj]
          · have h0 := hoff (by omega)
            subst h0
            simp only [World.frozen?, hx]
            have := hfr (0 + j) (by rw [← Array.length_toList, hCl]; omega)
            simpa using this
        refine (AnyM.slices_Sort_int Ly (v.rho id) off c us w hH hlt (by omega)).mono ?_
        rintro en w' ⟨rfl, n, os, rfl⟩
        have hidl := (List.getElem?_eq_some_iff.1 ho).1
        have hd : (us.mergeSort fun x y => decide (x ≤ y)) = srt us := rfl
        rw [hd]
        refine arr_sound W hwo hwt ho rfl (put_wrote (off := off) (n := n) (d := (srt us).toArray) hx) (fun C' e' fr' h => ?_) (.cells (ds := ds) ?_ ?_) ?_ (r := .tup []) (.tup rfl fun i x y h => by simp at h) ⟨rfl, rfl⟩
        · cases h; exact ⟨C, e, fr, hx, by simp [putCells]⟩
        · intro i hi; exact hfr i (by simpa [putCells] using hi)
        · refine ⟨by simp [putCells, srt_len, hCl, ← Array.length_toList], fun i x z hx' hz => ?_⟩
          have hz : (putCells (Value.int .i64) off (srt us).toArray C)[i]? = some z := by simpa using hz
          simp only [putCells, Array.getElem?_mapIdx, Option.map_eq_some_iff] at hz
          obtain ⟨z0, hz0, rfl⟩ := hz
          by_cases hi : i < us.length
          · have h0 := hoff (by omega)
            subst h0
            rw [if_pos ⟨Nat.zero_le _, by simp [srt_len, hi]⟩]
            have : ((srt us).map eI ++ ds)[i]? = some (eI ((srt us)[i]'(by rw [srt_len]; exact hi))) := by
              rw [List.getElem?_append_left (by simp [srt_len, hi])]; simp [srt_len, hi]
            rw [this] at hx'
            cases hx'
            have hg : ((srt us).toArray)[i - 0]! = (srt us)[i]'(by rw [srt_len]; exact hi) := by
              rw [Nat.sub_zero, getElem!_pos _ i (by simp [srt_len, hi])]; rfl
            rw [hg]
            exact .p .int
          · have hnot : ¬ (off ≤ i ∧ i < off + (srt us).toArray.size) := by
              rintro ⟨p1, p2⟩
              simp only [List.size_toArray, srt_len] at p2
              by_cases hz : us.length = 0
              · omega
              · have := hoff hz; omega
            rw [if_neg hnot]
            refine hR.2 i x z0 ?_ (by simpa using hz0)
            rw [List.getElem?_append_right (by simp [srt_len]; omega)] at hx'
            rw [List.getElem?_append_right (by simp; omega)]
            simpa [srt_len] using hx'
        · refine ⟨fun b x hb => ?_, ?_, rfl, rfl, rfl⟩
          · simp only [Sort.grow]
            rw [Array.getElem?_append_left (get_lt hb)]
            exact hb
          · simp [Sort.grow]
end Go.Vm
set_option linter.unusedVariables false
namespace Go.Proofs
open Go.Shelf
def Tryz.sortI_ren : Go.Shelf.Ren := ⟨fun | 5 => 36 | 8 => 63 | 7 => 62 | 19 => 94 | 20 => 95 | 10 => 85 | 11 => 86 | 12 => 87 | 13 => 88 | 14 => 89 | 15 => 90 | 16 => 91 | 17 => 92 | 18 => 93 | 30 => 117 | 31 => 118 | 32 => 119 | 33 => 120 | 34 => 121 | 35 => 110 | 40 => 141 | n => n, fun | 23 => 27 | 25 => 3 | 3 => 3 | 32 => 111 | 22 => 27 | 0 => 0 | 44 => 145 | 46 => 147 | 4 => 4 | 36 => 138 | 35 => 137 | 41 => 82 | 5 => 5 | 9 => 9 | 53 => 172 | 57 => 176 | 63 => 192 | 64 => 193 | n => n, fun | n => n⟩
theorem Tryz.sortI : Go.Proofs.SlLaysM.n5 Tryz.prog Tryz.sortI_ren := {
  mixed := by kernel_rfl
  f5 := ⟨Tryz.f36.name, by decide, Tryz.func36.trans (congrArg some (by kernel_rfl))⟩
  f7 := ⟨Tryz.f62.name, by decide, Tryz.func62.trans (congrArg some (by kernel_rfl))⟩
  f8 := Tryz.func63.trans (congrArg some (by kernel_rfl))
  f10 := ⟨Tryz.f85.name, by decide, Tryz.func85.trans (congrArg some (by kernel_rfl))⟩
  f11 := ⟨Tryz.f86.name, by decide, Tryz.func86.trans (congrArg some (by kernel_rfl))⟩
  f12 := ⟨Tryz.f87.name, by decide, Tryz.func87.trans (congrArg some (by kernel_rfl))⟩
  f13 := ⟨Tryz.f88.name, by decide, Tryz.func88.trans (congrArg some (by kernel_rfl))⟩
  f14 := ⟨Tryz.f89.name, by decide, Tryz.func89.trans (congrArg some (by kernel_rfl))⟩
  f15 := ⟨Tryz.f90.name, by decide, Tryz.func90.trans (congrArg some (by kernel_rfl))⟩
  f16 := ⟨Tryz.f91.name, by decide, Tryz.func91.trans (congrArg some (by kernel_rfl))⟩
  f17 := ⟨Tryz.f92.name, by decide, Tryz.func92.trans (congrArg some (by kernel_rfl))⟩
  f18 := ⟨Tryz.f93.name, by decide, Tryz.func93.trans (congrArg some (by kernel_rfl))⟩
  f19 := Tryz.func94.trans (congrArg some (by kernel_rfl))
  f20 := Tryz.func95.trans (congrArg some (by kernel_rfl))
  f30 := ⟨Tryz.f117.name, by decide, Tryz.func117.trans (congrArg some (by kernel_rfl))⟩
  f31 := Tryz.func118.trans (congrArg some (by kernel_rfl))
  f32 := Tryz.func119.trans (congrArg some (by kernel_rfl))
  f33 := ⟨Tryz.f120.name, by decide, Tryz.func120.trans (congrArg some (by kernel_rfl))⟩
  f34 := ⟨Tryz.f121.name, by decide, Tryz.func121.trans (congrArg some (by kernel_rfl))⟩
  f35 := ⟨Tryz.f110.name, by decide, Tryz.func110.trans (congrArg some (by kernel_rfl))⟩
  f40 := ⟨Tryz.f141.name, by decide, Tryz.func141.trans (congrArg some (by kernel_rfl))⟩
  t0 := Tryz.underlying0
  a0 := Tryz.isAgg0
  z0 := Tryz.sizeOf0
  v0 := Tryz.zeroValue0
  t3 := Tryz.underlying3
  a3 := Tryz.isAgg3
  z3 := Tryz.sizeOf3
  v3 := Tryz.zeroValue3
  t4 := Tryz.underlying4
  a4 := Tryz.isAgg4
  z4 := Tryz.sizeOf4
  v4 := Tryz.zeroValue4
  t5 := Tryz.underlying5
  a5 := Tryz.isAgg5
  z5 := Tryz.sizeOf5
  v5 := Tryz.zeroValue5
  t9 := Tryz.underlying9
  a9 := Tryz.isAgg9
  z9 := Tryz.sizeOf9
  v9 := Tryz.zeroValue9
  t22 := Tryz.underlying27
  a22 := Tryz.isAgg27
  z22 := Tryz.sizeOf27
  v22 := Tryz.zeroValue27
  t23 := Tryz.underlying27
  a23 := Tryz.isAgg27
  z23 := Tryz.sizeOf27
  v23 := Tryz.zeroValue27
  t25 := Tryz.underlying3
  a25 := Tryz.isAgg3
  z25 := Tryz.sizeOf3
  v25 := Tryz.zeroValue3
  t32 := Tryz.underlying111
  a32 := Tryz.isAgg111
  z32 := Tryz.sizeOf111
  v32 := Tryz.zeroValue111
  t35 := Tryz.underlying137
  a35 := Tryz.isAgg137
  z35 := Tryz.sizeOf137
  v35 := Tryz.zeroValue137
  t36 := Tryz.underlying138
  a36 := Tryz.isAgg138
  z36 := Tryz.sizeOf138
  v36 := Tryz.zeroValue138
  t41 := Tryz.underlying82
  a41 := Tryz.isAgg82
  z41 := Tryz.sizeOf82
  v41 := Tryz.zeroValue82
  t44 := Tryz.underlying145
  a44 := Tryz.isAgg145
  z44 := Tryz.sizeOf145
  v44 := Tryz.zeroValue145
  t46 := Tryz.underlying147
  a46 := Tryz.isAgg147
  z46 := Tryz.sizeOf147
  v46 := Tryz.zeroValue147
  t53 := Tryz.underlying172
  a53 := Tryz.isAgg172
  z53 := Tryz.sizeOf172
  v53 := Tryz.zeroValue172
  t57 := Tryz.underlying176
  a57 := Tryz.isAgg176
  z57 := Tryz.sizeOf176
  v57 := Tryz.zeroValue176
  t63 := Tryz.underlying192
  a63 := Tryz.isAgg192
  z63 := Tryz.sizeOf192
  v63 := Tryz.zeroValue192
  t64 := Tryz.underlying193
  a64 := Tryz.isAgg193
  z64 := Tryz.sizeOf193
  v64 := Tryz.zeroValue193
}
end Go.Proofs
namespace Go.Vm
open Go Go.Proofs
theorem fzA_refl : ∀ l : List V, FzA l l
  | [] => .nil
  | _ :: l => .cons (.c .same) (fzA_refl l)
theorem sortI_at {g : G} {id cap : Nat} {us : List Int} (ho : g.objs[id]? = some (.cells (us.map eI))) (hu : us.length < 2 ^ 60) :
    CallsAt En g 36 [.arr id 0 us.length cap 1] (.tup []) (g.setObj id (.cells ((srt us).map eI))) := by
  refine .prim ?_
  exact ⟨_, fzA_refl _, sortI_sound (E := En0) (ρ := Tryz.sortI_ren) Tryz.sortI ho hu⟩
end Go.Vm
set_option linter.unusedVariables false
namespace Go.Vm
open Go
section
variable {E : Env} {qt : Bool} {ops : Array Oper} {l : List Oper} {K : St → Prop}
variable {nt : Nat} {esc : Nat → Bool} {g : G} {os : List Ob} {ts : List Nat}
variable {d : Nat} {ty : TypeId} {pos : String} {after : Array Edge} {gd : Option (Nat × Bool)} {op : Op}
variable {b : Nat → V} {L : List (Nat × V)} {rb : Nat → Option (Nat × List V)} {R : List (Nat × (Nat × List V))}
theorem x_bsA {t e : TypeId} {n m : Nat} {ps : Array (Nat × Operand)} {z cs : List V} {vs : List (Nat × V)} (h : wX ops nt L gd = some true) (hd : Nat.blt d nt = true) (he : esc d = true) (hu : elemOf E t = some e) (hs : sz E e = some n) (hz : zeroOf E e = some z) (hp : partsX E L ps.toList = some vs)
    (hb : (Nat.blt 0 n && Nat.beq z.length n && Nat.ble (m * n) 16777216 && z.all one) = true) (hc : fillIn (fun i => some (i * n, n)) (List.replicate m z).flatten vs = some cs)
    (k : wpL E qt ops l (Sx nt b ((d, .arr (g.objs.length + os.length) 0 m m n) :: L) rb R esc (g.ext (os ++ [.cells cs]) ts)) K) :
    wpL E qt ops (⟨some d, .buildSlice t m ps, ty, pos, after, gd⟩ :: l) (Sx nt b L rb R esc (g.ext os ts)) K := by
  refine x_op (s1 := Sx nt b L rb R esc g) h hd rfl ?_ k
  have hp' : (Sx nt b L rb R esc (g.ext os ts)).parts E ps.toList = some vs := partsX_ok hp
  simp only [Bool.and_eq_true] at hb
  obtain ⟨⟨⟨h1, h2⟩, h3⟩, h4⟩ := hb
  have h1 : 0 < n := Nat.le_of_ble_eq_true h1
  have h2 : z.length = n := Nat.eq_of_beq_eq_true h2
  have h3 : m * n ≤ 16777216 := Nat.le_of_ble_eq_true h3
  have hbig : (Sx nt b L rb R esc (g.ext os ts)).big (some d) = true := he
  simp only [stepV, hu, hs, hz, hp']
  rw [if_neg (by simp only [not_or, Decidable.not_not]; exact ⟨by omega, h2, by omega, h4⟩), hc]
  simp only [Option.map_some]
  rw [if_pos hbig]
  simp only [Sx, ext_len, ext_new]
theorem x_appA {t u e : TypeId} {x y : Operand} {m by' i len cap : Nat} {z cs : List V} {ys : List (List V)} {k' : SK} (h : wX ops nt L gd = some true) (hd : Nat.blt d nt = true) (he0 : esc d = true) (hwo : g.wo = g.objs.length) (hx : evX E L x = some (.arr (g.objs.length + i) 0 len cap m)) (hy : evX E L y = some (.sl ys k'))
    (he : elemOf E t = some e) (hu : E.P.underlying u = some (.slice e)) (hz : zeroOf E e = some z) (hi : (E.P.info? e).map (fun i => (i.size, i.bytes)) = some (m, by')) (hm : (Nat.blt 0 m && Nat.blt 0 by' && Nat.beq z.length m && Nat.blt 0 ys.length && z.all one) = true)
    (hys : ys.all (rowOk m) = true) (hn : (len + ys.length) * by' ≤ 2 ^ 47) (ho : os[i]? = some (.cells cs)) (hcs : cs.length = len * m)
    (k : wpL E qt ops l (Sx nt b ((d, .arr (g.objs.length + os.length) 0 (len + ys.length) (len + ys.length) m) :: L) rb R esc (g.ext (os.set i .dead ++ [.cells (cs ++ ys.flatten)]) ts)) K) :
    wpL E qt ops (⟨some d, .call { callee := .builtin .append, args := #[x, y], argTypes := #[t, u] }, ty, pos, after, gd⟩ :: l) (Sx nt b L rb R esc (g.ext os ts)) K := by
  refine x_op (s1 := Sx nt b L rb R esc g) h hd rfl ?_ k
  have hg : (Sx nt b L rb R esc (g.ext os ts)).g.objs[g.objs.length + i]? = some (.cells cs) := by simp only [Sx, ext_obj, ho]
  simp only [Bool.and_eq_true] at hm
  obtain ⟨⟨⟨⟨h1, h2⟩, h3⟩, h4⟩, h5⟩ := hm
  have h1 : 0 < m := Nat.le_of_ble_eq_true h1
  have h2 : 0 < by' := Nat.le_of_ble_eq_true h2
  have h3 : z.length = m := Nat.eq_of_beq_eq_true h3
  have h4 : 0 < ys.length := Nat.le_of_ble_eq_true h4
  obtain ⟨inf, hi1, hi2⟩ := Option.map_eq_some_iff.1 hi
  simp only [Prod.mk.injEq] at hi2
  obtain ⟨hm1, hb1⟩ := hi2
  have ev1 : evL E (Sx nt b L rb R esc (g.ext os ts)) [x, y] = some [.arr (g.objs.length + i) 0 len cap m, .sl ys k'] := by simp only [evL, evS hx, evS hy]
  have hbig : (Sx nt b L rb R esc (g.ext os ts)).big (some d) = true := he0
  obtain ⟨r, rs, rfl⟩ : ∃ r rs, ys = r :: rs := by cases ys with | nil => simp at h4 | cons r rs => exact ⟨r, rs, rfl⟩
  have hap : (Sx nt b L rb R esc (g.ext os ts)).append E (some d) e (.arr (g.objs.length + i) 0 len cap m) (.sl (r :: rs) k') = some (.arr (g.objs.length + os.length) 0 (len + (r :: rs).length) (len + (r :: rs).length) m, Sx nt b L rb R esc (g.ext (os.set i .dead ++ [.cells (cs ++ (r :: rs).flatten)]) ts)) := by
    unfold St.append
    simp only [hi1, hz, St.rows]
    rw [hm1, hb1]
    rw [if_neg (by simp only [not_or, Decidable.not_not]; exact ⟨by omega, by omega, h3, hys⟩)]
    simp only [hg]
    rw [if_pos ⟨hn, trivial, trivial, hcs, h5, hbig⟩]
    simp only [Sx, ext_len]
    rw [ext_set hwo, ext_new]
  have hu2 : E.P.underlying u = some (.slice e) := hu
  simp only [stepV]
  have ev2 : evL E (Sx nt b L rb R esc (g.ext os ts)) (#[x, y] : Array Operand).toList = some [.arr (g.objs.length + i) 0 len cap m, .sl (r :: rs) k'] := ev1
  rw [ev2]
  simp only [List.getElem?_toArray, List.getElem?_cons_zero, List.getElem?_cons_succ, he, hu2]
  exact hap
theorem x_appE {t u e : TypeId} {x y : Operand} {m by' i len cap : Nat} {z cs : List V} {ys : List (List V)} {k' : SK} {v' : V} {os' : List Ob} (h : wX ops nt L gd = some true) (hd : Nat.blt d nt = true) (he0 : esc d = true) (hwo : g.wo = g.objs.length) (hx : evX E L x = some (.arr (g.objs.length + i) 0 len cap m)) (hy : evX E L y = some (.sl ys k'))
    (he : elemOf E t = some e) (hu : E.P.underlying u = some (.slice e)) (hz : zeroOf E e = some z) (hi : (E.P.info? e).map (fun i => (i.size, i.bytes)) = some (m, by')) (hm : (Nat.blt 0 m && Nat.blt 0 by' && Nat.beq z.length m && Nat.blt 0 ys.length && z.all one) = true)
    (hys : ys.all (rowOk m) = true) (hn : (len + ys.length) * by' ≤ 2 ^ 47) (ho : os[i]? = some (.cells cs)) (hcs : cs.length = len * m) (hv : V.arr (g.objs.length + os.length) 0 (len + ys.length) (len + ys.length) m = v') (hos : os.set i .dead ++ [.cells (cs ++ ys.flatten)] = os')
    (k : wpL E qt ops l (Sx nt b ((d, v') :: L) rb R esc (g.ext os' ts)) K) :
    wpL E qt ops (⟨some d, .call { callee := .builtin .append, args := #[x, y], argTypes := #[t, u] }, ty, pos, after, gd⟩ :: l) (Sx nt b L rb R esc (g.ext os ts)) K := by
  subst hv hos
  exact x_appA h hd he0 hwo hx hy he hu hz hi hm hys hn ho hcs k
end
end Go.Vm
