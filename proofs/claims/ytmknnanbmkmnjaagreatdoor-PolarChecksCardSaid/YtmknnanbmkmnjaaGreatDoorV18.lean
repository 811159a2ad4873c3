/- Part 18 of the texts that the claim leans on: a judgement on the program over plain values, its soundness, and contracts of functions. -/
import Derived.Test.YtmknnanbmkmnjaaGreatDoorV17
import Derived.RowKit3
import Derived.ChangeOld
import Derived.ChangeArms
import Derived.OpenShut
import Derived.MakeChecks
import Derived.Test.YtmknnanbmkmnjaaGreatDoorRows
import Derived.LaidMore
import Derived.Stop.Joined
set_option linter.unusedVariables false
namespace Go.Vm
open Go Go.Proofs
attribute [local irreducible] wpL
set_option maxRecDepth 20000 in
theorem polarChecks_ok {g0 : G} (h01 : g0.objs = []) (h02 : g0.toks = []) (hlv : runF Cn 100000 9 [] ⟨[], [], 0, 0⟩ = some (.clean [[.p (.bool true)]])) (L : Sl StateP) (root : Int) (hL : L.l.length < 2 ^ 60) (hs0 : ∀ s, s ∈ L.l → s.ok0) : CallsAt En g0 3 [.agg ((AutoP.enc L root).map .p)] (.p (.bool true)) g0 := by
  refine at_walk [(0, .agg ((AutoP.enc L root).map .p))] Tryz.func3 rfl rfl rfl fun g hgo hgt hwo hwt => ?_
  show Wc En _ (Tryz.f3.body.getD .skip) [] (Sx 107 _ _ _ _ _ _)
  unfold Tryz.f3
  simp only [Option.getD_some]
  rw [← G.ext_nil g]
  refine wc_seq ?_
  refine wc_reg fun K hK => ?_
  refine x_box rfl rfl rfl rfl rfl ?_
  refine x_assign rfl rfl rfl ?_
  refine x_nil (hK _ ?_); clear hK K
  refine go_seq ?_
  refine wc_seq ?_
  refine wc_seq ?_
  refine wc_reg fun K hK => ?_
  refine x_call rfl rfl rfl (by repeat (first | exact ho_nil | refine ho_cons (by first | rfl | exact rd_ho (by assumption)) ?_)) okf9 (lives_at (by show g.objs ++ [] = []; rw [hgo, h01]; rfl) (by show g.toks ++ [] = []; rw [hgt, h02]; rfl) (by show g.wo = (g.objs ++ []).length; rw [List.append_nil]; exact hwo) (by show g.wt = (g.toks ++ []).length; rw [List.append_nil]; exact hwt) hlv) ?_
  refine x_not rfl rfl rfl ?_
  refine x_moveS rfl rfl rfl (fun hg17 => ?_) (fun hg17 => ?_)
  · skip
    exact absurd hg17 (by decide)
  · skip
    refine x_ldLA rfl rfl rfl isag24 sz24 rfl rfl ?_
    refine x_call rfl rfl rfl (by repeat (first | exact ho_nil | refine ho_cons (by first | rfl | exact rd_ho (by assumption)) ?_)) okf10 (fewA_ok L root hL hs0 _) ?_
    refine x_not rfl rfl rfl ?_
    refine x_pickF rfl rfl rfl rfl ?_
    refine x_nil (hK _ ?_); clear hK K
    refine go_seq ?_
    refine xc_cond _ rfl (fun hc0 => ?_) (fun hc0 => ?_)
    · skip
      refine wc_seq ?_
      refine wc_reg fun K hK => ?_
      refine x_call rfl rfl rfl (by repeat (first | exact ho_nil | refine ho_cons (by first | rfl | exact rd_ho (by assumption)) ?_)) okf9 (lives_at (by show g.objs ++ [] = []; rw [hgo, h01]; rfl) (by show g.toks ++ [] = []; rw [hgt, h02]; rfl) (by show g.wo = (g.objs ++ []).length; rw [List.append_nil]; exact hwo) (by show g.wt = (g.toks ++ []).length; rw [List.append_nil]; exact hwt) hlv) ?_
      refine x_assign rfl rfl rfl ?_
      refine x_nil (hK _ ?_); clear hK K
      refine go_seq ?_
      refine wc_ret ?_
      refine go_seq_ret ?_
      exact x_end1 (Or.inr rfl) rfl rfl rfl rfl rfl rfl rfl
    · skip
      have hfew : fewA L.l = true := by simpa using hc0
      obtain ⟨hsk, hkk, hlen⟩ := few_ok hs0 hfew
      have hre := right_eq L.l root (fun s hs h hh => by have := hkk s hs h hh; omega)
      refine wc_skip ?_
      refine go_seq ?_
      refine wc_seq ?_
      refine wc_reg fun K hK => ?_
      refine x_ldLA rfl rfl rfl isag24 sz24 rfl rfl ?_
      refine x_call rfl rfl rfl (by repeat (first | exact ho_nil | refine ho_cons (by first | rfl | exact rd_ho (by assumption)) ?_)) okf11 (rightA_ok L root hL hsk _) ?_
      refine x_assign rfl rfl rfl ?_
      refine x_nil (hK _ ?_); clear hK K
      refine go_seq ?_
      refine wc_seq ?_
      refine wc_reg fun K hK => ?_
      refine x_ldLA rfl rfl rfl isag24 sz24 rfl rfl ?_
      refine x_call rfl rfl rfl (by repeat (first | exact ho_nil | refine ho_cons (by first | rfl | exact rd_ho (by assumption)) ?_)) okf12 (reach_ok L root hL hsk _) ?_
      refine x_assign rfl rfl rfl ?_
      refine x_nil (hK _ ?_); clear hK K
      refine go_seq ?_
      refine wc_seq ?_
      refine wc_seq ?_
      refine wc_reg fun K hK => ?_
      refine x_ldLA rfl rfl rfl isag24 sz24 rfl rfl ?_
      refine x_call rfl rfl rfl (by repeat (first | exact ho_nil | refine ho_cons (by first | rfl | exact rd_ho (by assumption)) ?_)) okf13 (auto_ok L root hL hsk _) ?_
      refine x_bin rfl rfl rfl rfl rfl ?_
      refine x_move rfl rfl rfl ?_
      refine x_bin rfl rfl rfl rfl rfl ?_
      refine x_nil (hK _ ?_); clear hK K
      refine go_seq ?_
      refine xc_cond _ rfl (fun hc1 => ?_) (fun hc1 => ?_)
      · skip
        exact absurd hc1 (by rw [hre]; simp)
      · skip
        refine wc_skip ?_
        refine go_seq ?_
        refine wc_seq ?_
        refine wc_seq ?_
        refine wc_reg fun K hK => ?_
        refine x_move rfl rfl rfl ?_
        refine x_not rfl rfl rfl ?_
        refine x_nil (hK _ ?_); clear hK K
        refine go_seq ?_
        refine xc_cond _ rfl (fun hc2 => ?_) (fun hc2 => ?_)
        · skip
          have hz : ¬ autoB L.l root = 0 := by rw [Bool.not_eq_true'] at hc2; rw [hc2] at hre; simpa using hre
          rw [if_neg hz]
          refine wc_seq ?_
          refine wc_reg fun K hK => ?_
          refine x_ldLA rfl rfl rfl isag24 sz24 rfl rfl ?_
          refine x_call rfl rfl rfl (by repeat (first | exact ho_nil | refine ho_cons (by first | rfl | exact rd_ho (by assumption)) ?_)) okf13 (auto_ok L root hL hsk _) ?_
          refine x_bin rfl rfl rfl rfl rfl ?_
          refine x_moveS rfl rfl rfl (fun hg37 => ?_) (fun hg37 => ?_)
          · skip
            refine x_move rfl rfl rfl ?_
            have hrn : Rd eInt (.p .nilsl) [] := .nil
            refine x_len rfl rfl rfl (by first | assumption | exact Rd.enc) und27 ?_
            refine x_bin rfl rfl rfl rfl rfl ?_
            refine x_pickT rfl rfl rfl rfl ?_
            refine x_assign rfl rfl rfl ?_
            refine x_nil (hK _ ?_); clear hK K
            refine go_seq ?_
            refine wc_ret ?_
            refine go_seq_ret ?_
            exact x_end1 (Or.inr rfl) rfl rfl rfl rfl rfl rfl rfl
          · skip
            exact absurd hg37 (by rcases auto_two L.l root with h | h; (exact absurd h hz); rw [h]; decide)
        · skip
          have hz : autoB L.l root = 0 := by rw [Bool.not_eq_false'] at hc2; rw [hc2] at hre; simpa using hre
          have hrt := auto_lt hz
          have hr0 : 0 ≤ root := hrt.1
          have hr1 : root < L.l.length := hrt.2.1
          rw [if_pos hz]
          refine wc_skip ?_
          refine go_seq ?_
          refine wc_seq ?_
          refine wc_reg fun K hK => ?_
          refine x_fa rfl rfl rfl fld24_0 rfl ?_
          refine x_ldL rfl rfl rfl isag22 rfl rfl ?_
          refine x_len rfl rfl rfl (by first | assumption | exact Rd.enc) und22 ?_
          refine x_mkslice rfl rfl rfl rfl el31 zero4 inf4 rfl (by omega) (by omega) ?_
          refine x_assign rfl rfl rfl ?_
          refine x_nil (hK _ ?_); clear hK K
          refine go_seq ?_
          refine wc_seq ?_
          refine wc_reg fun K hK => ?_
          refine x_move rfl rfl rfl ?_
          refine x_fa rfl rfl rfl fld24_1 rfl ?_
          refine x_ldL rfl rfl rfl isag3 rfl rfl ?_
          refine x_iaA rfl rfl rfl rfl und31 sz4 rfl hr0 hr1 ?_
          refine x_stO rfl rfl rfl sz4 rfl rfl (by rw [ext_obj]; rfl) (by rw [bsStart]; simp; omega) ?_
          refine x_nil (hK _ ?_); clear hK K
          refine go_seq ?_
          refine wc_seq ?_
          refine wc_seq ?_
          refine wc_reg fun K hK => ?_
          refine x_assign rfl rfl rfl ?_
          refine x_nil (hK _ ?_); clear hK K
          refine go_seq ?_
          refine wc_block ?_
          refine xc_loopG [(1, _), (4, _), (5, _)] [(1, _)] (fun x : Bool × List Bool => [(6, .p (.bool x.1))]) (fun x : Bool × List Bool => []) (fun x : Bool × List Bool => g.ext [.cells (x.2.map eB)] []) (fun x : Bool × List Bool => Mk L.l root x.2 ∧ (x.1 = false → ∀ i, i < L.l.length → KidsB L.l x.2 i)) (fun x : Bool × List Bool => 2 * cf x.2 + (if x.1 = true then 1 else 0)) (true, (List.replicate L.l.length false).set root.toNat true) (by repeat (first | exact trivial | refine And.intro rfl ?_)) (by repeat (first | exact trivial | refine And.intro rfl ?_)) (bsBegin hwo hr0) ⟨Mk.start hr0 hr1, fun e => by cases e⟩ ?_
          rintro ⟨ag0, bs⟩ R0 hR1_0 hR2_0 ⟨hmk, hno⟩ b rb
          dsimp only at hmk hno ⊢
          have hbl := hmk.len
          refine wc_seq ?_
          refine wc_seq ?_
          refine wc_reg fun K hK => ?_
          refine x_move rfl rfl rfl ?_
          refine x_nil (hK _ ?_); clear hK K
          refine go_seq ?_
          refine xc_cond _ rfl (fun hc3 => ?_) (fun hc3 => ?_)
          · skip
            subst hc3
            refine wc_skip ?_
            refine go_seq ?_
            refine wc_block ?_
            refine wc_seq ?_
            refine wc_reg fun K hK => ?_
            refine x_assign rfl rfl rfl ?_
            refine x_nil (hK _ ?_); clear hK K
            refine go_seq ?_
            refine wc_seq ?_
            refine wc_reg fun K hK => ?_
            refine x_fa rfl rfl rfl fld24_0 rfl ?_
            refine x_ldL rfl rfl rfl isag22 rfl rfl ?_
            refine x_len rfl rfl rfl (by first | assumption | exact Rd.enc) und22 ?_
            refine x_move rfl rfl rfl ?_
            refine x_nil (hK _ ?_); clear hK K
            refine go_seq ?_
            refine wc_block ?_
            refine xc_loopG [(1, _), (4, _), (5, _), (52, _), (53, _)] [(1, _)] (fun x : Nat × Bool × List Bool => [(6, .p (.bool x.2.1)), (54, .p (.int .i64 x.1))]) (fun x : Nat × Bool × List Bool => []) (fun x : Nat × Bool × List Bool => g.ext [.cells (x.2.2.map eB)] []) (fun x : Nat × Bool × List Bool => x.1 ≤ L.l.length ∧ Rd1 L.l root bs x.2.1 x.2.2 ((∀ i2, i2 < x.1 → KidsB L.l bs i2))) (fun x : Nat × Bool × List Bool => L.l.length - x.1) (0, false, bs) (by repeat (first | exact trivial | refine And.intro rfl ?_)) (by repeat (first | exact trivial | refine And.intro rfl ?_)) rfl ⟨Nat.zero_le _, hmk, fun _ => ⟨rfl, fun i hi => absurd hi (Nat.not_lt_zero _)⟩, fun e => by cases e⟩ ?_
            rintro ⟨j, ag1, bs1⟩ R1 hR1_1 hR2_1 ⟨hj, hq1⟩ b rb
            dsimp only at hj hq1 ⊢
            have hbl1 := hq1.mks.len
            refine wc_seq ?_
            refine wc_reg fun K hK => ?_
            refine x_bin rfl rfl rfl rfl rfl ?_
            refine x_nil (hK _ ?_); clear hK K
            refine go_seq ?_
            refine wc_seq ?_
            refine xc_cond _ rfl (fun hc4 => ?_) (fun hc4 => ?_)
            · skip
              have hlt : j < L.l.length := by simp at hc4; omega
              obtain ⟨s, es⟩ : ∃ s, L.l[j]? = some s := ⟨_, List.getElem?_eq_getElem hlt⟩
              have hms : s ∈ L.l := List.mem_of_getElem? es
              have hsok := hsk s hms
              have hhl := hsok.heads
              refine wc_skip ?_
              refine go_seq ?_
              refine wc_seq ?_
              refine wc_block ?_
              refine wc_seq ?_
              refine wc_reg fun K hK => ?_
              refine x_move rfl rfl rfl ?_
              refine x_ia rfl rfl rfl (by first | assumption | exact Rd.enc) rfl und22 sz34 rfl (by assumption) rfl ?_
              refine x_ldRA rfl rfl rfl isag34 sz34 rfl ?_
              refine x_alloc rfl rfl rfl zero34 rfl ?_
              refine x_assign rfl rfl rfl ?_
              refine x_stL rfl rfl rfl sz34 rfl rfl rfl rfl ?_
              refine x_nil (hK _ ?_); clear hK K
              refine go_seq ?_
              refine wc_seq ?_
              refine wc_reg fun K hK => ?_
              refine x_fa rfl rfl rfl fld34_1 rfl ?_
              refine x_ldL rfl rfl rfl isag32 rfl rfl ?_
              refine x_len rfl rfl rfl (by first | assumption | exact Rd.enc) und32 ?_
              refine x_move rfl rfl rfl ?_
              refine x_nil (hK _ ?_); clear hK K
              refine go_seq ?_
              refine wc_block ?_
              refine xc_loopG [(1, _), (4, _), (5, _), (7, _), (52, _), (53, _), (54, _), (60, _), (61, _)] [(1, _)] (fun x : Nat × Bool × List Bool => [(6, .p (.bool x.2.1)), (62, .p (.int .i64 x.1))]) (fun x : Nat × Bool × List Bool => []) (fun x : Nat × Bool × List Bool => g.ext [.cells (x.2.2.map eB)] []) (fun x : Nat × Bool × List Bool => x.1 ≤ s.heads.l.length ∧ Rd1 L.l root bs x.2.1 x.2.2 ((∀ i2, i2 < j → KidsB L.l bs i2) ∧ (bs.getD j false = true → ∀ h2 q, h2 ∈ s.heads.l.take x.1 → q ∈ h2.kids.l → bat bs q = true))) (fun x : Nat × Bool × List Bool => s.heads.l.length - x.1) (0, ag1, bs1) (by repeat (first | exact trivial | refine And.intro rfl ?_)) (by repeat (first | exact trivial | refine And.intro rfl ?_)) rfl ⟨Nat.zero_le _, hq1.imp fun _ h => ⟨h, fun _ h2 q hh => by simp at hh⟩⟩ ?_
              rintro ⟨i, ag2, bs2⟩ R2 hR1_2 hR2_2 ⟨hi, hq2⟩ b rb
              dsimp only at hi hq2 ⊢
              have hbl2 := hq2.mks.len
              refine wc_seq ?_
              refine wc_reg fun K hK => ?_
              refine x_bin rfl rfl rfl rfl rfl ?_
              refine x_nil (hK _ ?_); clear hK K
              refine go_seq ?_
              refine wc_seq ?_
              refine xc_cond _ rfl (fun hc5 => ?_) (fun hc5 => ?_)
              · skip
                have hlt2 : i < s.heads.l.length := by simp at hc5; omega
                obtain ⟨h, eh⟩ : ∃ h, s.heads.l[i]? = some h := ⟨_, List.getElem?_eq_getElem hlt2⟩
                have hmh : h ∈ s.heads.l := List.mem_of_getElem? eh
                have hkl := (hsok.each h hmh).kids
                refine wc_skip ?_
                refine go_seq ?_
                refine wc_seq ?_
                refine wc_block ?_
                refine wc_seq ?_
                refine wc_reg fun K hK => ?_
                refine x_ia rfl rfl rfl (by first | assumption | exact Rd.enc) rfl und32 sz37 rfl (by assumption) rfl ?_
                refine x_ldRA rfl rfl rfl isag37 sz37 rfl ?_
                refine x_alloc rfl rfl rfl zero37 rfl ?_
                refine x_stL rfl rfl rfl sz37 rfl rfl rfl rfl ?_
                refine x_nil (hK _ ?_); clear hK K
                refine go_seq ?_
                refine wc_seq ?_
                refine wc_reg fun K hK => ?_
                refine x_fa rfl rfl rfl fld37_2 rfl ?_
                refine x_ldL rfl rfl rfl isag27 rfl rfl ?_
                refine x_len rfl rfl rfl (by first | assumption | exact Rd.enc) und27 ?_
                refine x_move rfl rfl rfl ?_
                refine x_nil (hK _ ?_); clear hK K
                refine go_seq ?_
                refine wc_block ?_
                refine xc_loopG [(1, _), (4, _), (5, _), (7, _), (52, _), (53, _), (54, _), (60, _), (61, _), (62, _), (67, _), (68, _)] [(1, _)] (fun x : Nat × Bool × List Bool => [(6, .p (.bool x.2.1)), (69, .p (.int .i64 x.1))]) (fun x : Nat × Bool × List Bool => []) (fun x : Nat × Bool × List Bool => g.ext [.cells (x.2.2.map eB)] []) (fun x : Nat × Bool × List Bool => x.1 ≤ h.kids.l.length ∧ Rd1 L.l root bs x.2.1 x.2.2 ((∀ i2, i2 < j → KidsB L.l bs i2) ∧ (bs.getD j false = true → ∀ h2 q, h2 ∈ s.heads.l.take i → q ∈ h2.kids.l → bat bs q = true) ∧ (bs.getD j false = true → ∀ q, q ∈ h.kids.l.take x.1 → bat bs q = true))) (fun x : Nat × Bool × List Bool => h.kids.l.length - x.1) (0, ag2, bs2) (by repeat (first | exact trivial | refine And.intro rfl ?_)) (by repeat (first | exact trivial | refine And.intro rfl ?_)) rfl ⟨Nat.zero_le _, hq2.imp fun _ h => ⟨h.1, h.2, fun _ q hh => by simp at hh⟩⟩ ?_
                rintro ⟨k, ag3, bs3⟩ R3 hR1_3 hR2_3 ⟨hk, hq3⟩ b rb
                dsimp only at hk hq3 ⊢
                have hbl3 := hq3.mks.len
                refine wc_seq ?_
                refine wc_reg fun K hK => ?_
                refine x_bin rfl rfl rfl rfl rfl ?_
                refine x_nil (hK _ ?_); clear hK K
                refine go_seq ?_
                refine wc_seq ?_
                refine xc_cond _ rfl (fun hc6 => ?_) (fun hc6 => ?_)
                · skip
                  have hlt3 : k < h.kids.l.length := by simp at hc6; omega
                  obtain ⟨q, eq⟩ : ∃ q, h.kids.l[k]? = some q := ⟨_, List.getElem?_eq_getElem hlt3⟩
                  have hmq : q ∈ h.kids.l := List.mem_of_getElem? eq
                  have hqr := auto_kid hz hms hmh hmq
                  refine wc_skip ?_
                  refine go_seq ?_
                  refine wc_seq ?_
                  refine wc_block ?_
                  refine wc_seq ?_
                  refine wc_reg fun K hK => ?_
                  refine x_ia rfl rfl rfl (by first | assumption | exact Rd.enc) rfl und27 sz3 rfl (by assumption) rfl ?_
                  refine x_ldR rfl rfl rfl isag3 rfl ?_
                  refine x_assign rfl rfl rfl ?_
                  refine x_nil (hK _ ?_); clear hK K
                  refine go_seq ?_
                  refine wc_seq ?_
                  refine wc_reg fun K hK => ?_
                  refine x_move rfl rfl rfl ?_
                  refine x_move rfl rfl rfl ?_
                  refine x_iaA rfl rfl rfl rfl und31 sz4 rfl (by omega) (by omega) ?_
                  refine x_ldO rfl rfl rfl isag4 (by rw [ext_obj]; rfl) (bsGetN (by omega)) ?_
                  refine x_moveS rfl rfl rfl (fun hg77 => ?_) (fun hg77 => ?_)
                  · skip
                    refine x_move rfl rfl rfl ?_
                    refine x_move rfl rfl rfl ?_
                    refine x_iaA rfl rfl rfl rfl und31 sz4 rfl hqr.1 (by omega) ?_
                    refine x_ldO rfl rfl rfl isag4 (by rw [ext_obj]; rfl) (bsGet hqr.1 (by omega)) ?_
                    refine x_not rfl rfl rfl ?_
                    refine x_pickT rfl rfl rfl rfl ?_
                    refine x_nil (hK _ ?_); clear hK K
                    refine go_seq ?_
                    refine xc_cond _ rfl (fun hc7 => ?_) (fun hc7 => ?_)
                    · skip
                      refine wc_seq ?_
                      refine wc_reg fun K hK => ?_
                      refine x_move rfl rfl rfl ?_
                      refine x_move rfl rfl rfl ?_
                      refine x_iaA rfl rfl rfl rfl und31 sz4 rfl hqr.1 (by omega) ?_
                      refine x_stO rfl rfl rfl sz4 rfl rfl (by rw [ext_obj]; rfl) (by simp; omega) ?_
                      refine x_nil (hK _ ?_); clear hK K
                      refine go_seq ?_
                      refine wc_reg fun K hK => ?_
                      refine x_assign rfl rfl rfl ?_
                      refine x_nil (hK _ ?_); clear hK K
                      refine go_blk ?_
                      refine go_seq ?_
                      refine wc_reg fun K hK => ?_
                      refine x_inc rfl rfl rfl rfl (by omega) ?_
                      refine x_move rfl rfl rfl ?_
                      refine x_nil (hK _ ?_); clear hK K
                      exact hR1_3 (k + 1, true, bs3.set q.toNat true) _ _ _ _ _ ⟨hlt3, hq3.mark es hg77 hmh hmq hqr.1 hqr.2 (by simpa using hc7)⟩ (by show h.kids.l.length - (k + 1) < h.kids.l.length - k; omega) (by repeat (first | exact trivial | refine And.intro rfl ?_)) (by repeat (first | exact trivial | refine And.intro rfl ?_)) (bsSet hwo hqr.1).symm
                    · skip
                      refine wc_skip ?_
                      refine go_blk ?_
                      refine go_seq ?_
                      refine wc_reg fun K hK => ?_
                      refine x_inc rfl rfl rfl rfl (by omega) ?_
                      refine x_move rfl rfl rfl ?_
                      refine x_nil (hK _ ?_); clear hK K
                      exact hR1_3 (k + 1, ag3, bs3) _ _ _ _ _ ⟨hlt3, hq3.imp fun e hp => ⟨hp.1, hp.2.1, fun hb z hz2 => by rcases mem_take_succ eq hz2 with hz2 | rfl; (exact hp.2.2 hb z hz2); have := (hq3.no e).1; rw [← this]; simpa using hc7⟩⟩ (by show h.kids.l.length - (k + 1) < h.kids.l.length - k; omega) (by repeat (first | exact trivial | refine And.intro rfl ?_)) (by repeat (first | exact trivial | refine And.intro rfl ?_)) rfl
                  · skip
                    refine x_skip rfl rfl ?_
                    refine x_skip rfl rfl ?_
                    refine x_skip rfl rfl ?_
                    refine x_skip rfl rfl ?_
                    refine x_skip rfl rfl ?_
                    refine x_pickF rfl rfl rfl rfl ?_
                    refine x_nil (hK _ ?_); clear hK K
                    refine go_seq ?_
                    refine xc_cond false rfl (fun h => by cases h) (fun _ => ?_)
                    refine wc_skip ?_
                    refine go_blk ?_
                    refine go_seq ?_
                    refine wc_reg fun K hK => ?_
                    refine x_inc rfl rfl rfl rfl (by omega) ?_
                    refine x_move rfl rfl rfl ?_
                    refine x_nil (hK _ ?_); clear hK K
                    exact hR1_3 (k + 1, ag3, bs3) _ _ _ _ _ ⟨hlt3, hq3.imp fun e hp => ⟨hp.1, hp.2.1, fun hb z hz2 => by have := (hq3.no e).1; rw [← this, hg77] at hb; cases hb⟩⟩ (by show h.kids.l.length - (k + 1) < h.kids.l.length - k; omega) (by repeat (first | exact trivial | refine And.intro rfl ?_)) (by repeat (first | exact trivial | refine And.intro rfl ?_)) rfl
                · skip
                  have hk3 : h.kids.l.length ≤ k := by simp at hc6; omega
                  refine wc_exit ?_
                  refine go_seq_exit ?_
                  refine hR2_3 _ _ (by simp) ?_
                  refine go_blk_exit ?_
                  refine go_blk ?_
                  refine go_seq ?_
                  refine wc_reg fun K hK => ?_
                  refine x_inc rfl rfl rfl rfl (by omega) ?_
                  refine x_move rfl rfl rfl ?_
                  refine x_nil (hK _ ?_); clear hK K
                  exact hR1_2 (i + 1, ag3, bs3) _ _ _ _ _ ⟨hlt2, hq3.imp fun e hp => ⟨hp.1, fun hb h2 z hh2 hz2 => by rcases mem_take_succ eh hh2 with hh2 | rfl; (exact hp.2.1 hb h2 z hh2 hz2); exact hp.2.2 hb z (by rw [List.take_of_length_le hk3]; exact hz2)⟩⟩ (by show s.heads.l.length - (i + 1) < s.heads.l.length - i; omega) (by repeat (first | exact trivial | refine And.intro rfl ?_)) (by repeat (first | exact trivial | refine And.intro rfl ?_)) rfl
              · skip
                have hk2 : s.heads.l.length ≤ i := by simp at hc5; omega
                refine wc_exit ?_
                refine go_seq_exit ?_
                refine hR2_2 _ _ (by simp) ?_
                refine go_blk_exit ?_
                refine go_blk ?_
                refine go_seq ?_
                refine wc_reg fun K hK => ?_
                refine x_inc rfl rfl rfl rfl (by omega) ?_
                refine x_move rfl rfl rfl ?_
                refine x_nil (hK _ ?_); clear hK K
                exact hR1_1 (j + 1, ag2, bs2) _ _ _ _ _ ⟨hlt, hq2.imp fun e hp i2 hi2 => by rcases Nat.lt_succ_iff_lt_or_eq.1 hi2 with hi2 | rfl; (exact hp.1 i2 hi2); intro s2 h2 z hs2 hb hh2 hz2; rw [es] at hs2; cases hs2; exact hp.2 hb h2 z (by rw [List.take_of_length_le hk2]; exact hh2) hz2⟩ (by show L.l.length - (j + 1) < L.l.length - j; omega) (by repeat (first | exact trivial | refine And.intro rfl ?_)) (by repeat (first | exact trivial | refine And.intro rfl ?_)) rfl
            · skip
              have hk1 : L.l.length ≤ j := by simp at hc4; omega
              refine wc_exit ?_
              refine go_seq_exit ?_
              refine hR2_1 _ _ (by simp) ?_
              refine go_blk_exit ?_
              refine go_blk ?_
              exact hR1_0 (ag1, bs1) _ _ _ _ _ ⟨hq1.mks, fun e i2 hi2 => by have := hq1.no e; rw [this.1]; exact this.2 i2 (by omega)⟩ (by show 2 * cf bs1 + (if ag1 = true then 1 else 0) < 2 * cf bs + (if true = true then 1 else 0); cases ag1; (rw [(hq1.no rfl).1]; simp); have := hq1.yes rfl; simp; omega) (by repeat (first | exact trivial | refine And.intro rfl ?_)) (by repeat (first | exact trivial | refine And.intro rfl ?_)) rfl
          · skip
            have hall := hno hc3
            refine wc_exit ?_
            refine go_seq_exit ?_
            refine hR2_0 _ _ (by simp) ?_
            refine go_blk_exit ?_
            refine go_seq ?_
            refine wc_seq ?_
            refine wc_reg fun K hK => ?_
            refine x_assign rfl rfl rfl ?_
            refine x_nil (hK _ ?_); clear hK K
            refine go_seq ?_
            refine wc_seq ?_
            refine wc_seq ?_
            refine wc_reg fun K hK => ?_
            refine x_move rfl rfl rfl ?_
            refine x_lenA rfl rfl rfl und31 ?_
            refine x_move rfl rfl rfl ?_
            refine x_nil (hK _ ?_); clear hK K
            refine go_seq ?_
            refine wc_block ?_
            refine xc_loopG [(1, _), (4, _), (5, _), (6, _), (91, _)] [(1, _)] (fun x : Nat => [(13, accV eInt g.toks.length 1 (wantL bs x)), (92, .p (.int .i64 x))]) (fun x : Nat => []) (fun x : Nat => g.ext [.cells (bs.map eB)] (accT (wantL bs x))) (fun x : Nat => x ≤ bs.length) (fun x : Nat => bs.length - x) 0 (by repeat (first | exact trivial | refine And.intro rfl ?_)) (by repeat (first | exact trivial | refine And.intro rfl ?_)) rfl (Nat.zero_le _) ?_
            rintro y R4 hR1_4 hR2_4 hy b rb
            refine wc_seq ?_
            refine wc_reg fun K hK => ?_
            refine x_bin rfl rfl rfl rfl rfl ?_
            refine x_nil (hK _ ?_); clear hK K
            refine go_seq ?_
            refine wc_seq ?_
            refine xc_cond _ rfl (fun hc8 => ?_) (fun hc8 => ?_)
            · skip
              have hlt4 : y < bs.length := by simp at hc8; omega
              refine wc_skip ?_
              refine go_seq ?_
              refine wc_seq ?_
              refine wc_block ?_
              refine wc_seq ?_
              refine wc_reg fun K hK => ?_
              refine x_move rfl rfl rfl ?_
              refine x_assign rfl rfl rfl ?_
              refine x_nil (hK _ ?_); clear hK K
              refine go_seq ?_
              refine wc_seq ?_
              refine wc_reg fun K hK => ?_
              refine x_move rfl rfl rfl ?_
              refine x_move rfl rfl rfl ?_
              refine x_iaA rfl rfl rfl rfl und31 sz4 rfl (by omega) (by omega) ?_
              refine x_ldO rfl rfl rfl isag4 (by rw [ext_obj]; rfl) (bsGetN (by omega)) ?_
              refine x_nil (hK _ ?_); clear hK K
              refine go_seq ?_
              refine xc_cond _ rfl (fun hc9 => ?_) (fun hc9 => ?_)
              · skip
                have hw : wantL bs (y + 1) = wantL bs y ++ [(y : Int)] := by rw [wantL_succ, hc9]; rfl
                refine wc_reg fun K hK => ?_
                refine x_move rfl rfl rfl ?_
                refine x_move rfl rfl rfl ?_
                refine x_bs rfl rfl rfl el27 sz3 zero3 rfl rfl rfl ?_
                refine x_acc rfl rfl rfl hwt rfl rfl (rd_one _) el27 und27 zero3 inf3 rfl (fun _ => rfl) (by have := wantL_len (bs := bs) (n := y); simp; omega) ?_
                refine x_assign rfl rfl rfl ?_
                refine x_nil (hK _ ?_); clear hK K
                refine go_blk ?_
                refine go_seq ?_
                refine wc_reg fun K hK => ?_
                refine x_inc rfl rfl rfl rfl (by omega) ?_
                refine x_move rfl rfl rfl ?_
                refine x_nil (hK _ ?_); clear hK K
                exact hR1_4 (y + 1) _ _ _ _ _ hlt4 (by omega) (by repeat (first | exact trivial | refine And.intro rfl ?_ | refine And.intro (by rw [hw]; rfl) ?_)) (by repeat (first | exact trivial | refine And.intro rfl ?_)) (by rw [hw])
              · skip
                have hw : wantL bs (y + 1) = wantL bs y := by rw [wantL_succ, hc9]; simp
                refine wc_skip ?_
                refine go_blk ?_
                refine go_seq ?_
                refine wc_reg fun K hK => ?_
                refine x_inc rfl rfl rfl rfl (by omega) ?_
                refine x_move rfl rfl rfl ?_
                refine x_nil (hK _ ?_); clear hK K
                exact hR1_4 (y + 1) _ _ _ _ _ hlt4 (by omega) (by repeat (first | exact trivial | refine And.intro rfl ?_ | refine And.intro (by rw [hw]; rfl) ?_)) (by repeat (first | exact trivial | refine And.intro rfl ?_)) (by rw [hw])
            · skip
              have hw : wantL bs y = reachL L.l root := by rw [← wantL_all hz hmk hall]; congr 1; simp at hc8; omega
              refine wc_exit ?_
              refine go_seq_exit ?_
              refine hR2_4 _ _ (by simp) ?_
              refine go_blk_exit ?_
              refine go_seq ?_
              refine wc_seq ?_
              refine wc_reg fun K hK => ?_
              refine x_move rfl rfl rfl ?_
              have hrd : Rd eInt (accV eInt g.toks.length 1 (wantL bs y)) (wantL bs y) := Rd.acc
              refine x_move rfl rfl rfl ?_
              refine x_call rfl rfl rfl (by repeat (first | exact ho_nil | refine ho_cons (by first | rfl | exact rd_ho (by assumption)) ?_)) okf14 (sameInts_ok (Rd.p _) Rd.acc (by unfold reachL; have := List.length_filter_le (fun k => @decide (Rch L.l root k) (Classical.propDecidable _)) (rangeI L.l.length); rw [rangeI_len] at this; omega) _) ?_
              refine x_assign rfl rfl rfl ?_
              refine x_nil (hK _ ?_); clear hK K
              refine go_seq ?_
              refine wc_ret ?_
              exact x_end1 (Or.inr rfl) rfl rfl rfl rfl rfl rfl (by rw [hw]; simp)
end Go.Vm
namespace Go.Vm
open Go
set_option maxRecDepth 100000
theorem lives15 : runF Cn 100000 9 [] ⟨[], [], 0, 0⟩ = some (.clean [[.p (.bool true)]]) := by kernel_rfl
end Go.Vm
set_option linter.unusedVariables false
namespace Go.Vm
open Go
def Vw.all (w : World) : Vw := { sg := fun b => match w.heap[b]? with | some (.cells C _ _) => some C | _ => none, rho := fun _ => 0, kap := fun _ => 0, kn := fun _ => 0, osz := fun _ => 0, toks := [], nobj := 0 }
def G.none : G := ⟨[], [], 0, 0⟩
theorem Vw.all_sg {w : World} {b : Nat} {C : Array Value} {e : TypeId} {fr : Nat × Nat} (h : w.heap[b]? = some (.cells C e fr)) : (Vw.all w).sg b = some C := by simp [Vw.all, h]
theorem Vw.all_cells {w : World} {b : Nat} {C : Array Value} (h : (Vw.all w).sg b = some C) : ∃ e fr, w.heap[b]? = some (.cells C e fr) := by
  simp only [Vw.all] at h
  split at h
  · rename_i C' e fr hh; cases h; exact ⟨e, fr, hh⟩
  · cases h
theorem WR.all {E : Env} {w : World} (hg : ∀ gid row, E.glob gid = some row → RepV (Vw.all w) (fun _ _ => .none) (.ref row) (.pointer (some ⟨gid, 0, .none⟩))) : WR E (Vw.all w) G.none w where
  sg b cs h := by
    obtain ⟨e, fr, hh⟩ := Vw.all_cells h
    exact ⟨cs, e, fr, hh, fun _ _ h => h⟩
  nobj := rfl
  toks := rfl
  obj id o h := by simp [G.none] at h
  inj i j oi oj h := by simp [G.none] at h
  osz i h := by exact absurd h (Nat.not_lt_zero _)
  osg i h := by exact absurd h (Nat.not_lt_zero _)
  tk k h := by exact absurd h (Nat.not_lt_zero _)
  tinj i j h := by exact absurd h (Nat.not_lt_zero _)
  glob := hg
structure Kept (w w' : World) : Prop where
  os : w'.os = w.os
  out : w'.output = w.output
  size : w.heap.size ≤ w'.heap.size
  heap : ∀ b, b < w.heap.size → w'.heap[b]? = w.heap[b]?
theorem Kept.but {w w' : World} (h : Kept w w') (may : MemPlace → Prop) : w.keptBut w' may := by
  refine ⟨h.os, h.out, fun i hi => ?_⟩
  rw [h.heap i hi]
  exact (World.keptBut_refl w may).2.2 i hi
theorem enter_kept {E : Env} {f : FuncId} {args : List V} {ys : Array Value} {w : World} {Q : V → G → Prop} (hp : PrimOk E) (W : WR E (Vw.all w) G.none w) (ha : RepArgs (Vw.all w) args ys) (h : Ev E (.call f args G.none Q)) :
    Calls E.P f ys w fun e w' => ∃ r y v' g', e = .returned y ∧ Q r g' ∧ RepV v' noLc r y ∧ Kept w w' := by
  refine (sound hp h (Vw.all w) w ys W (Nat.le_refl _) (Nat.le_refl _) ha).mono ?_
  rintro e w' ⟨r, y, v', g', rfl, hq, W', hr, hx, hP⟩
  obtain ⟨gl, S, _⟩ := hP.ex
  refine ⟨r, y, v', g', rfl, hq, hr, S.os, S.out, S.size, fun b hb => S.other b hb (fun i hi => absurd hi (Nat.not_lt_zero _)) (fun k hk => absurd hk (Nat.not_lt_zero _))⟩
section
variable {H : Type} {enc : TypeId × Value → H} {P : Program} {w w' : World} {base : Nat} {held : Bool}
theorem Kept.sameAt (h : Kept w w') {p : MemPlace} (hp : p.block < w.heap.size) : w.sameAt w' p := by
  cases p with
  | cell b off => simp only [World.sameAt, World.cell?]; rw [h.heap b hp]
  | map b => exact h.heap b hp
def kidsT (P : Program) (T : Nat → Bool) (t : TypeId) : Bool := match P.underlying t with
  | some (.pointer e) | some (.array _ e) | some (.map _ e) => T e
  | some (.slice e) => T e && !(Nat.beq (P.cellsOf e) 0)
  | some (.struct fs) => fs.toList.all fun f => T f.type
  | _ => true
theorem trodStep_spare {T : Nat → Bool} {sp : Nat → Bool} {r r' : TypeId → List Value → Option (DataW H × List MemPlace)}
    (hr : ∀ t cs x, T t = true → r t cs = some x → (∀ p ∈ x.2, sp p.block = true) → r' t cs = some x) {t : TypeId} {cs : List Value} {x : DataW H × List MemPlace} (hT : kidsT P T t = true)
    (h : DataW.trodStep enc P w base (fun _ => true) true r t cs = some x) (hs : ∀ p ∈ x.2, sp p.block = true) : DataW.trodStep enc P w base sp true r' t cs = some x := by
  unfold kidsT at hT
  unfold DataW.trodStep at h ⊢
  split at h
  case h_1 => exact h
  case h_2 => exact h
  case h_3 => exact h
  case h_4 => exact h
  case h_5 => exact h
  case h_6 e a hu =>
    rw [hu] at hT
    simp only [Option.map_eq_some_iff, Option.bind_eq_some_iff] at h ⊢
    obtain ⟨y, ⟨cs', hc, hy⟩, rfl⟩ := h
    exact ⟨y, ⟨cs', hc, hr _ _ _ hT hy (fun p hp => hs p (by simp [hp]))⟩, rfl⟩
  case h_7 => exact h
  case h_8 e a len cap hu =>
    rw [hu] at hT
    simp only [Bool.and_eq_true, Bool.not_eq_true'] at hT
    obtain ⟨hT, hTz⟩ := hT
    have hne : P.cellsOf e ≠ 0 := fun e0 => by rw [e0] at hTz; cases hTz
    simp only at h ⊢
    split at h
    · rename_i hc
      rw [if_pos hc]
      simp only [Option.map_eq_some_iff, Option.bind_eq_some_iff] at h ⊢
      obtain ⟨elems, he, rest, hrest, rfl⟩ := h
      have hlen : elems.length = len := by simpa using mapM_some_length he
      have one : ∀ (i : Nat) (y : DataW H × List MemPlace), y ∈ elems ++ rest →
          (w.cells? base (a.add (i * P.cellsOf e)) (P.cellsOf e)).bind (r e) = some y → (w.cells? base (a.add (i * P.cellsOf e)) (P.cellsOf e)).bind (r' e) = some y := by
        intro i y hy hv
        simp only [Option.bind_eq_some_iff] at hv ⊢
        obtain ⟨cs', hc', hy'⟩ := hv
        refine ⟨cs', hc', hr _ _ _ hT hy' (fun p hp => hs p ?_)⟩
        simp only [List.mem_append, List.mem_flatMap]
        right
        exact ⟨y, by simpa using hy, hp⟩
      refine ⟨elems, mapM_carry he (fun i y hi hy => one i y (by simp [hy])), rest, ?_, rfl⟩
      rw [if_pos trivial] at hrest
      have hrl : rest.length = cap - len := by simpa using mapM_some_length hrest
      by_cases hsp : sp a.block = true
      · rw [if_pos hsp]
        exact mapM_carry hrest (fun j y hj hy => one (len + j) y (by simp [hy]))
      · rw [if_neg hsp]
        have h0 : ¬ 0 < (elems.length + rest.length) * P.cellsOf e := by
          intro hpos
          apply hsp
          have := hs (.cell a.block (a.off + 0)) (by simp only [List.mem_append]; left; exact MemPlace.mem_row.2 ⟨0, hpos, rfl⟩)
          exact this
        have h1 : rest.length = 0 := by
          rcases Nat.eq_zero_or_pos (elems.length + rest.length) with h2 | h2
          · omega
          · exact absurd (Nat.mul_pos h2 (Nat.pos_of_ne_zero hne)) h0
        rw [List.length_eq_zero_iff.1 h1]
    · cases h
  case h_9 hu =>
    rw [hu] at hT
    split at h
    · rename_i hc
      rw [if_pos hc]
      simp only [Option.map_eq_some_iff] at h ⊢
      obtain ⟨xs, hx, rfl⟩ := h
      exact ⟨xs, mapM_carry hx (fun f y hf hy hv => hr _ _ _ (List.all_eq_true.1 hT f hf) hv (fun p hp => hs p (List.mem_flatMap.2 ⟨y, hy, hp⟩))), rfl⟩
    · cases h
  case h_10 hu =>
    rw [hu] at hT
    split at h
    · rename_i hc
      rw [if_pos hc]
      simp only [Option.map_eq_some_iff] at h ⊢
      obtain ⟨xs, hx, rfl⟩ := h
      exact ⟨xs, mapM_carry hx (fun f y _ hy hv => hr _ _ _ hT hv (fun p hp => hs p (List.mem_flatMap.2 ⟨y, hy, hp⟩))), rfl⟩
    · cases h
  case h_11 => exact h
  case h_12 => exact h
  case h_13 => exact h
  case h_14 k e b hu =>
    rw [hu] at hT
    split at h
    · rename_i es clock hb
      split at h
      · rename_i hc
        simp only [Option.bind_eq_some_iff] at h
        obtain ⟨entries, he, hd⟩ := h
        split at hd
        · rename_i hris
          have hx := Option.some.inj hd
          subst hx
          simp only [if_pos hc, Option.bind_eq_some_iff]
          refine ⟨entries, mapM_carry he (fun x y _ hy hv => ?_), by simp [hris]⟩
          simp only [Option.bind_eq_some_iff] at hv ⊢
          obtain ⟨key, hk, hz⟩ := hv
          refine ⟨key, hk, ?_⟩
          split at hz
          · rename_i hf
            rw [if_pos hf]
            simp only [Option.map_eq_some_iff] at hz ⊢
            obtain ⟨q, hq, rfl⟩ := hz
            exact ⟨q, hr _ _ _ hT hq (fun p hp => hs p (by simp only [List.mem_cons, List.mem_flatMap]; right; exact ⟨_, hy, hp⟩)), rfl⟩
          · cases hz
        · cases hd
      · cases h
    · cases h
  case h_15 => exact h
  case h_16 => exact h
  case h_17 => exact h
  case h_18 => exact h
  case h_19 => exact h
  case h_20 => exact h
  case h_21 => cases h
theorem trod_spare {T : Nat → Bool} {sp : Nat → Bool} (hT : ∀ t, T t = true → kidsT P T t = true) : ∀ (n : Nat) (t : TypeId) (cs : List Value) (x : DataW H × List MemPlace), T t = true →
    DataW.trod enc P w base (fun _ => true) true n t cs = some x → (∀ p ∈ x.2, sp p.block = true) → DataW.trod enc P w base sp true n t cs = some x := by
  intro n
  induction n with
  | zero => intro t cs x _ h; simp [DataW.trod] at h
  | succ n ih =>
    intro t cs x ht h hs
    rw [DataW.trod_step] at h ⊢
    exact trodStep_spare ih (hT t ht) h hs
theorem trodAll_kept {T : Nat → Bool} {sp : Nat → Bool} (hT : ∀ t, T t = true → kidsT P T t = true) (k : Kept w w') (hsp : ∀ b, b < w.heap.size → sp b = true) : ∀ {ts : List TypeId} {vs : List Value} {ds : List (DataW H)} {ps : List MemPlace}, ts.all T = true →
    DataW.TrodAll enc P w base (fun _ => true) true ts vs ds ps → DataW.TrodAll enc P w' base sp true ts vs ds ps
  | [], [], [], _, _, h => h
  | _ :: _, _ :: _, _ :: _, _, ht, ⟨p, q, ⟨n, h⟩, hs, e⟩ => by
    simp only [List.all_cons, Bool.and_eq_true] at ht
    refine ⟨p, q, ⟨n, ?_⟩, trodAll_kept hT k hsp ht.2 hs, e⟩
    have hlt := DataW.trod_lt n _ _ _ h
    exact trod_spare hT n _ _ _ ht.1 (DataW.trod_carry n _ _ _ h (fun p hp => k.sameAt (hlt p hp))) (fun p hp => hsp _ (hlt p hp))
end
theorem post_kept {H : Type} {enc : TypeId × Value → H} {P : Program} {T : Nat → Bool} (hT : ∀ t, T t = true → kidsT P T t = true) {f : Func} (hf : f.params.toList.all T = true) {s : ChangeSpec} {apart fresh handsOn : Bool} {W W' : World} {args : Array Value} {v : Value} {ds gs : List (DataW H)} {before : List MemPlace}
    (hW : DataW.Whole enc P f.params.toList s.vars apart W args.toList ds gs before) (hv : s.vars = [])
    (hres : ∀ (b : Nat) (sp : Nat → Bool) (hd : Bool), DataW.TrodAll enc P W' b sp hd f.resultTypes.toList (v.resultList f.resultTypes.size) (s.fn H (ds ++ gs)).results [])
    (hargs : (s.fn H (ds ++ gs)).args = ds) (hvars : (s.fn H (ds ++ gs)).vars = []) (k : Kept W W') : s.post enc P f apart fresh handsOn false W args v W' := by
  have hW' := hW
  obtain ⟨p, q, hA, hV, e, _⟩ := hW'
  refine ⟨ds, gs, before, [], p, [], hW, hres _ _ _, ?_, ?_, k.but _, fun h => by cases h⟩
  · rw [hargs]
    exact trodAll_kept hT k (fun b hb => by simpa using hb) hf hA
  · rw [hvars, hv]; exact rfl
end Go.Vm
set_option linter.unusedVariables false
namespace Go.Vm
open Go
def Opens (P : Program) (w : World) {α : Type} (t : TypeId) (en : α → List PV) (ok : α → Prop) : Prop :=
  ∀ (H : Type) (enc : TypeId × Value → H) (fuel : Nat) (cs : List Value) (x : DataW H × List MemPlace), DataW.trod enc P w 0 (fun _ => true) true fuel t cs = some x →
    (x.1.weights P t).all (· ≤ reachBytes) = true → ∃ a, ok a ∧ cs.length = (en a).length ∧ ∀ (i : Nat) (p : PV) (y : Value), (en a)[i]? = some p → cs[i]? = some y → RepP (Vw.all w).sg p y
section
variable {P : Program} {w : World} {t : TypeId} {α : Type} {en : α → List PV} {ok : α → Prop}
theorem opens_mono {ok' : α → Prop} (h : Opens P w t en ok) (k : ∀ a, ok a → ok' a) : Opens P w t en ok' := by
  intro H enc fuel cs x hx hw
  obtain ⟨a, h1, h2⟩ := h H enc fuel cs x hx hw
  exact ⟨a, k a h1, h2⟩
theorem one_rep {p : PV} {y : Value} (h : RepP (Vw.all w).sg p y) : ∀ (i : Nat) (p' : PV) (y' : Value), [p][i]? = some p' → [y][i]? = some y' → RepP (Vw.all w).sg p' y' := by
  intro i p' y' h1 h2
  cases i with
  | zero => simp at h1 h2; subst h1 h2; exact h
  | succ i => simp at h1
theorem opens_int {k : IntKind} (ht : P.underlying t = some (.int k)) : Opens P w t (fun n : Int => [.int k n]) (fun n => (Lit.int k n).wf = true) := by
  intro H enc fuel cs x hx _
  obtain ⟨n, rfl, _, hw⟩ := DataW.trod_int ht hx
  exact ⟨n, hw, rfl, one_rep .int⟩
theorem opens_bool (ht : P.underlying t = some .bool) : Opens P w t eBool (fun _ => True) := by
  intro H enc fuel cs x hx _
  obtain ⟨n, rfl, _⟩ := DataW.trod_bool ht hx
  exact ⟨n, trivial, rfl, one_rep .bool⟩
theorem opens_string (ht : P.underlying t = some .string) : Opens P w t eStr (fun s => s.size ≤ reachBytes) := by
  intro H enc fuel cs x hx hw
  obtain ⟨s, rfl, rfl, _⟩ := DataW.trod_string ht hx
  refine ⟨s, ?_, rfl, one_rep .str⟩
  simpa [DataW.weights] using hw
theorem list_of {β : Type} {R : Nat → β → Prop} : ∀ n : Nat, (∀ i, i < n → ∃ a, R i a) → ∃ l : List β, l.length = n ∧ ∀ i a, l[i]? = some a → R i a := by
  intro n
  induction n with
  | zero => intro _; exact ⟨[], rfl, fun i a h => by simp at h⟩
  | succ n ih =>
    intro h
    obtain ⟨l, hl, hr⟩ := ih fun i hi => h i (by omega)
    obtain ⟨a, ha⟩ := h n (by omega)
    refine ⟨l ++ [a], by simp [hl], fun i b hb => ?_⟩
    by_cases hi : i < l.length
    · rw [List.getElem?_append_left hi] at hb; exact hr i b hb
    · rw [List.getElem?_append_right (by omega)] at hb
      have : i - l.length = 0 := by
        have := (List.getElem?_eq_some_iff.1 hb).1
        simp at this; omega
      rw [this] at hb
      simp at hb
      subst hb
      rw [show i = n by omega]
      exact ha
theorem weightsAll_mem {H : Type} {P : Program} {e : TypeId} {q : Nat → Bool} : ∀ {l : List (DataW H)}, (DataW.weightsAll P e l).all q = true → ∀ d, d ∈ l → (d.weights P e).all q = true := by
  intro l
  induction l with
  | nil => intro _ d hd; cases hd
  | cons a l ih =>
    intro h d hd
    simp only [DataW.weightsAll, List.all_append, Bool.and_eq_true] at h
    rcases List.mem_cons.1 hd with rfl | hd
    · exact h.1
    · exact ih h.2 d hd
theorem opens_slice {e : TypeId} {n : Nat} (ht : P.underlying t = some (.slice e)) (he : Opens P w e en ok) (hn : P.cellsOf e = n) (hn0 : 0 < n) (hl : ∀ a, (en a).length = n) (hb : 0 < P.bytesOf e) :
    Opens P w t (fun s : Sl α => [s.enc en]) (fun s => s.l.length ≤ reachBytes ∧ ∀ a, a ∈ s.l → ok a) := by
  intro H enc fuel cs x hx hw
  rcases DataW.trod_slice ht hx with ⟨rfl, rfl⟩ | ⟨a, len, cap, elems, rest, m, rfl, rfl, rfl, _, hlc, _, hlen, hel, _, _⟩
  · refine ⟨⟨true, [], fun _ => rfl⟩, ⟨Nat.zero_le _, fun a ha => by cases ha⟩, rfl, one_rep ?_⟩
    exact .nilsl
  · simp only [DataW.weights, ht, List.all_cons, List.all_append, Bool.and_eq_true, decide_eq_true_eq] at hw
    obtain ⟨hw1, hw2, _⟩ := hw
    have hlr : len ≤ reachBytes := by
      have : elems.length * 1 ≤ ((elems.map (·.1)).length + (rest.map (·.1)).length) * P.bytesOf e := Nat.mul_le_mul (by simp) hb
      omega
    have one : ∀ i, i < len → ∃ b : α, ok b ∧ ∃ ys : List Value, w.cells? 0 (a.add (i * n)) n = some ys ∧ ys.length = (en b).length ∧ ∀ (i : Nat) (p : PV) (y : Value), (en b)[i]? = some p → ys[i]? = some y → RepP (Vw.all w).sg p y := by
      intro i hi
      have h1 := hel i hi
      rw [hn] at h1
      have h2 : elems[i]? = some (elems[i]'(by omega)) := List.getElem?_eq_getElem _
      rw [h2, Option.bind_eq_some_iff] at h1
      obtain ⟨ys, h3, h4⟩ := h1
      obtain ⟨b, q1, q2, q3⟩ := he H enc m ys _ h4 (weightsAll_mem hw2 _ (List.mem_map.2 ⟨_, List.getElem_mem (by omega), rfl⟩))
      exact ⟨b, q1, ys, h3, q2, q3⟩
    obtain ⟨l, hll, hR⟩ := list_of len one
    subst hll
    refine ⟨⟨false, l, fun h => by cases h⟩, ⟨hlr, fun b hb => ?_⟩, rfl, one_rep ?_⟩
    · obtain ⟨i, hi⟩ := List.mem_iff_getElem?.1 hb
      exact (hR i b hi).1
    · have cellAt : ∀ (i j : Nat) (b : α) (p : PV), l[i]? = some b → (en b)[j]? = some p → ∃ C e fr y, w.heap[a.block]? = some (.cells C e fr) ∧ a.spot = none ∧ C[a.off + (i * n + j)]? = some y ∧ RepP (Vw.all w).sg p y := by
        intro i j b p hi hj
        obtain ⟨_, ys, h1, h2, h3⟩ := hR i b hi
        have hjl : j < (en b).length := (List.getElem?_eq_some_iff.1 hj).1
        have hjn : j < n := by rw [hl] at hjl; exact hjl
        simp only [World.cells?, Nat.zero_le, if_true] at h1
        have h4 := mapM_some_get h1 j j (by rw [List.getElem?_range hjn])
        have h5 : ys[j]? = some (ys[j]'(by omega)) := List.getElem?_eq_getElem _
        rw [h5] at h4
        have hr := h3 j p _ hj h5
        simp only [World.cell?] at h4
        split at h4
        · rename_i C e fr hh
          split at h4
          · cases h4
          · rename_i hs
            have hb1 : ((a.add (i * n)).add j).block = a.block := by
              have e1 : ∀ (z : Addr) (k : Nat), (z.add k).block = z.block := by
                intro z k; unfold Addr.add; split
                · rename_i h0; subst h0; rfl
                · rfl
              rw [e1, e1]
            have ho1 : ((a.add (i * n)).add j).off = a.off + (i * n + j) := by
              have e1 : ∀ (z : Addr) (k : Nat), (z.add k).off = z.off + k := by
                intro z k; unfold Addr.add; split
                · rename_i h0; subst h0; rfl
                · rfl
              rw [e1, e1]; omega
            rw [hb1] at hh
            rw [ho1] at h4
            refine ⟨C, e, fr, _, hh, ?_, h4, hr⟩
            have hpos : 0 < l.length := Nat.lt_of_le_of_lt (Nat.zero_le i) (List.getElem?_eq_some_iff.1 hi).1
            obtain ⟨_, zs, g1, g2, _⟩ := hR 0 l[0] (by simp [hpos])
            simp only [World.cells?, Nat.zero_le, if_true] at g1
            have g4 := mapM_some_get g1 0 0 (by rw [List.getElem?_range hn0])
            have g5 : zs[0]? = some (zs[0]'(by rw [g2, hl]; exact hn0)) := List.getElem?_eq_getElem _
            rw [g5] at g4
            have : (a.add (0 * n)).add 0 = a := by simp [Addr.add]
            rw [this] at g4
            simp only [World.cell?] at g4
            split at g4
            · split at g4
              · cases g4
              · rename_i hsp
                simpa using hsp
            · cases g4
        · cases h4
      show RepP (Vw.all w).sg (.sl (l.map en)) (.slice (some a) l.length cap)
      have hlm : l.length = (l.map en).length := by simp
      by_cases hne : l = []
      · subst hne
        exact .sl (rows := []) (n := n) (fun _ _ => undef) #[] (fun h => absurd rfl h) hlc (fun r hr => by cases hr) (fun h => absurd rfl h) (fun i j r x hi => by simp at hi) (fun i j r x hi => by simp at hi)
      · have hpos : 0 < l.length := List.length_pos_iff.2 hne
        have h0 : 0 < (en (l[0]'hpos)).length := by rw [hl]; exact hn0
        obtain ⟨p0, hp0⟩ : ∃ p0, (en (l[0]'hpos))[0]? = some p0 := ⟨_, List.getElem?_eq_getElem h0⟩
        obtain ⟨C, e', fr, _, hC, hsp, _, _⟩ := cellAt 0 0 l[0] p0 (by simp [hpos]) hp0
        rw [hlm]
        refine .sl (rows := l.map en) (n := n) (fun i j => (C[a.off + (i * n + j)]?).getD undef) C (fun _ => hsp) (by rw [← hlm]; exact hlc) (fun r hr => ?_) (fun _ => Vw.all_sg hC) (fun i j r x hi hj => ?_) (fun i j r x hi hj => ?_)
        · obtain ⟨b, _, rfl⟩ := List.mem_map.1 hr; exact hl b
        · rw [List.getElem?_map] at hi
          cases hb2 : l[i]? with
          | none => rw [hb2] at hi; cases hi
          | some b =>
            rw [hb2] at hi; cases hi
            obtain ⟨C', e2, fr2, y, q1, _, q3, _⟩ := cellAt i j b x hb2 hj
            rw [hC] at q1; cases q1
            rw [q3]; rfl
        · rw [List.getElem?_map] at hi
          cases hb2 : l[i]? with
          | none => rw [hb2] at hi; cases hi
          | some b =>
            rw [hb2] at hi; cases hi
            obtain ⟨C', e2, fr2, y, q1, _, q3, q4⟩ := cellAt i j b x hb2 hj
            rw [hC] at q1; cases q1
            rw [q3]; exact q4
theorem weightsEach_at {H : Type} {q : Nat → Bool} : ∀ {ts : List TypeId} {l : List (DataW H)}, (DataW.weightsEach P ts l).all q = true → ∀ (i : Nat) (t : TypeId) (d : DataW H), ts[i]? = some t → l[i]? = some d → (d.weights P t).all q = true := by
  intro ts
  induction ts with
  | nil => intro l _ i t d h; simp at h
  | cons a ts ih =>
    intro l h i t d ht hd
    cases l with
    | nil => simp at hd
    | cons b l =>
      simp only [DataW.weightsEach, List.all_append, Bool.and_eq_true] at h
      cases i with
      | zero => simp at ht hd; subst ht hd; exact h.1
      | succ i => exact ih h.2 i t d (by simpa using ht) (by simpa using hd)
theorem struct_field {fs : Array Field} (ht : P.underlying t = some (.struct fs)) {H : Type} {enc : TypeId × Value → H} {fuel : Nat} {cs : List Value} {x : DataW H × List MemPlace}
    (hx : DataW.trod enc P w 0 (fun _ => true) true fuel t cs = some x) (hw : (x.1.weights P t).all (· ≤ reachBytes) = true) {i : Nat} {f : Field} (hf : fs[i]? = some f) (ho : Opens P w f.type en ok) :
    ∃ a, ok a ∧ ((cs.drop f.offset).take (P.cellsOf f.type)).length = (en a).length ∧ ∀ (j : Nat) (p : PV) (y : Value), (en a)[j]? = some p → ((cs.drop f.offset).take (P.cellsOf f.type))[j]? = some y → RepP (Vw.all w).sg p y := by
  obtain ⟨xs, m, rfl, rfl, _, hl, hel⟩ := DataW.trod_struct ht hx
  have hi : i < xs.length := by rw [hl]; exact (Array.getElem?_eq_some_iff.1 hf).1
  have h1 := hel i f hf
  rw [List.getElem?_eq_getElem hi] at h1
  refine ho H enc m _ _ h1 ?_
  simp only [DataW.weights, ht] at hw
  exact weightsEach_at hw i f.type _ (by rw [List.getElem?_map]; simp [hf]) (by rw [List.getElem?_map, List.getElem?_eq_getElem hi]; rfl)
theorem struct_len {fs : Array Field} (ht : P.underlying t = some (.struct fs)) {H : Type} {enc : TypeId × Value → H} {fuel : Nat} {cs : List Value} {x : DataW H × List MemPlace}
    (hx : DataW.trod enc P w 0 (fun _ => true) true fuel t cs = some x) : cs.length = P.cellsOf t := by
  obtain ⟨xs, m, rfl, rfl, h, _, _⟩ := DataW.trod_struct ht hx
  exact h
end
end Go.Vm
set_option linter.unusedVariables false
namespace Go.Vm
open Go
theorem laid_ref {P : Program} {w : World} {n : String} {g : Nat} {t e : TypeId} {N : Nat} {k : IntKind} {cs : Array Value} {fuel : Nat} {p : List MemPlace} {l : List Int} {lc : Nat → Nat → Option Nat}
    (hg : P.globalNamed n = some g) (hv : w.var? P n = some cs) (ht : P.underlying t = some (.array N e)) (he : P.underlying e = some (.int k)) (hc : P.cellsOf e = 1)
    (h : DataW.trod (fun _ => ()) P w 0 (fun _ => true) false fuel t cs.toList = some (.agg (l.map fun m => .lit (.int k m)), p)) : RepV (Vw.all w) lc (.ref (l.map fun m => .p (.int k m))) (.pointer (some ⟨g, 0, none⟩)) := by
  obtain ⟨xs, m1, rfl, hx, hlen, hn, hel⟩ := DataW.trod_array ht h
  simp only [Prod.mk.injEq, DataW.agg.injEq] at hx
  have hheap : ∃ el fr, w.heap[g]? = some (.cells cs el fr) := by
    simp only [World.var?, hg, Option.bind_some] at hv
    split at hv
    · rename_i c el fr hh; cases hv; exact ⟨el, fr, hh⟩
    · cases hv
  obtain ⟨el, fr, hh⟩ := hheap
  have cell : ∀ (i : Nat) (m : Int), l[i]? = some m → cs[i]? = some (Value.int k m) := by
    intro i m hm
    have hxi : (xs.map (·.1))[i]? = some (.lit (.int k m)) := by rw [← hx.1, List.getElem?_map, hm]; rfl
    rw [List.getElem?_map, Option.map_eq_some_iff] at hxi
    obtain ⟨x, hx1, hx2⟩ := hxi
    have hi : i < N := by rw [← hn]; exact (List.getElem?_eq_some_iff.1 hx1).1
    have h1 := hel i hi
    rw [hx1, hc, Nat.mul_one] at h1
    obtain ⟨q, h2, rfl, _⟩ := DataW.trod_int he h1
    simp only [DataW.lit.injEq, Lit.int.injEq, true_and] at hx2
    subst hx2
    have h3 : ((cs.toList.drop i).take 1)[0]? = some (.int k q) := by rw [h2]; rfl
    rw [List.getElem?_take, if_pos (by omega), List.getElem?_drop] at h3
    simpa using h3
  refine .ref (l.map fun m => .int k m) cs rfl (fun _ => Vw.all_sg hh) ⟨by simp, fun i x y hx hy => ?_⟩ (fun j y hy => ?_)
  · rw [List.getElem?_map, Option.map_eq_some_iff] at hx hy
    obtain ⟨a, ha, rfl⟩ := hx
    obtain ⟨b, hb, rfl⟩ := hy
    rw [ha] at hb; cases hb
    exact .p .int
  · rw [List.getElem?_map, Option.map_eq_some_iff] at hy
    obtain ⟨b, hb, rfl⟩ := hy
    simpa using cell j b hb
theorem at1 {P : Program} {sg : Nat → Option (Array Value)} {cs : List Value} {f : Field} {off : Nat} {pv : PV} (h : ∀ (j : Nat) (p : PV) (y : Value), [pv][j]? = some p → ((cs.drop f.offset).take (P.cellsOf f.type))[j]? = some y → RepP sg p y)
    (ho : f.offset = off) (hc : P.cellsOf f.type = 1) : ∀ y, cs[off]? = some y → RepP sg pv y :=
  fun y hy => h 0 pv y rfl (by rw [List.getElem?_take, if_pos (by omega), List.getElem?_drop, ho]; simpa using hy)
theorem arg_agg {w : World} {xs : List PV} {cs : Array Value} (hl : cs.toList.length = xs.length) (h : ∀ (i : Nat) (p : PV) (y : Value), xs[i]? = some p → cs.toList[i]? = some y → RepP (Vw.all w).sg p y) : RepA (Vw.all w) (.agg (xs.map .p)) (.agg cs) := by
  have : RepL (Vw.all w) (xs.map .p) cs.toList := by
    refine ⟨by rw [List.length_map, hl], fun i x y hx hy => ?_⟩
    rw [List.getElem?_map, Option.map_eq_some_iff] at hx
    obtain ⟨p, hp, rfl⟩ := hx
    exact .p (h i p y hp hy)
  have h2 := RepA.agg this
  simpa using h2
theorem args_one {v : Vw} {x : V} {y : Value} (h : RepA v x y) : RepArgs v [x] #[y] :=
  ⟨rfl, fun i a b ha hb => by
    cases i with
    | zero => simp at ha hb; subst ha hb; exact h
    | succ i => simp at ha⟩
theorem args_two {v : Vw} {x1 x2 : V} {y1 y2 : Value} (h1 : RepA v x1 y1) (h2 : RepA v x2 y2) : RepArgs v [x1, x2] #[y1, y2] :=
  ⟨rfl, fun i a b ha hb => by
    match i with
    | 0 => simp at ha hb; subst ha hb; exact h1
    | 1 => simp at ha hb; subst ha hb; exact h2
    | i + 2 => simp at ha⟩
theorem args_three {v : Vw} {x1 x2 x3 : V} {y1 y2 y3 : Value} (h1 : RepA v x1 y1) (h2 : RepA v x2 y2) (h3 : RepA v x3 y3) : RepArgs v [x1, x2, x3] #[y1, y2, y3] :=
  ⟨rfl, fun i a b ha hb => by
    match i with
    | 0 => simp at ha hb; subst ha hb; exact h1
    | 1 => simp at ha hb; subst ha hb; exact h2
    | 2 => simp at ha hb; subst ha hb; exact h3
    | i + 3 => simp at ha⟩
theorem rep_bool {v : Vw} {b : Bool} {y : Value} (h : RepV v noLc (.p (.bool b)) y) : y = .bool b := by
  cases h with
  | a h => cases h with
    | cell h => cases h with
      | p h => cases h; rfl
end Go.Vm
set_option linter.unusedVariables false
set_option maxRecDepth 100000
namespace Go.Vm
open Go Go.Proofs Go.ChangeShapes
def tab32 : List Int := [0, 1, 28, 2, 29, 14, 24, 3, 30, 22, 20, 15, 25, 17, 4, 8, 31, 27, 13, 23, 21, 19, 16, 7, 26, 12, 18, 6, 11, 5, 10, 9]
def tab64 : List Int := [0, 1, 56, 2, 57, 49, 28, 3, 61, 58, 42, 50, 38, 29, 17, 4, 62, 47, 59, 36, 45, 43, 51, 22, 53, 39, 33, 30, 24, 18, 12, 5, 63, 55, 48, 27, 60, 41, 37, 16, 46, 35, 44, 21, 52, 32, 23, 11, 54, 26, 40, 15, 34, 20, 31, 10, 25, 14, 19, 9, 13, 8, 7, 6]
def pow10 : List Int := [1, 10, 100, 1000, 10000, 100000, 1000000, 10000000, 100000000, 1000000000, 10000000000, 100000000000, 1000000000000, 10000000000000, 100000000000000, 1000000000000000, 10000000000000000, 100000000000000000, 1000000000000000000, 10000000000000000000]
abbrev laid3 : List (String × DataW Unit) := [("math/bits.deBruijn32tab", YtmknnanbmkmnjaaGreatDoor.Rows.laid_math_bits_deBruijn32tab), ("math/bits.deBruijn64tab", YtmknnanbmkmnjaaGreatDoor.Rows.laid_math_bits_deBruijn64tab), ("internal/strconv.uint64pow10", YtmknnanbmkmnjaaGreatDoor.Rows.laid_internal_strconv_uint64pow10)]
theorem glob_laid {W : World} (h : laidMetH Tryz.prog laid3 W) : ∀ gid row, En.glob gid = some row → RepV (Vw.all W) (fun _ _ => none) (.ref row) (.pointer (some ⟨gid, 0, none⟩)) := by
  rw [MakeChecks.laidMetH_plain _ _ _ (by kernel_rfl)] at h
  obtain ⟨ps, ⟨g0, t0, cs0, f0, p0, q0, hg0, ht0, hv0, hd0, ⟨g1, t1, cs1, f1, p1, q1, hg1, ht1, hv1, hd1, ⟨g2, t2, cs2, f2, p2, q2, hg2, ht2, hv2, hd2, _, _⟩, _⟩, _⟩, _, _⟩ := h
  have e0 : Tryz.prog.globalNamed "math/bits.deBruijn32tab" = some 2 := by kernel_rfl
  have e1 : Tryz.prog.globalNamed "math/bits.deBruijn64tab" = some 3 := by kernel_rfl
  have e2 : Tryz.prog.globalNamed "internal/strconv.uint64pow10" = some 0 := by kernel_rfl
  obtain rfl := Option.some.inj (e0.symm.trans hg0)
  obtain rfl := Option.some.inj (e1.symm.trans hg1)
  obtain rfl := Option.some.inj (e2.symm.trans hg2)
  obtain rfl := Option.some.inj ((show (Tryz.prog.globals[2]?).map (·.type) = some 261 by kernel_rfl).symm.trans ht0)
  obtain rfl := Option.some.inj ((show (Tryz.prog.globals[3]?).map (·.type) = some 262 by kernel_rfl).symm.trans ht1)
  obtain rfl := Option.some.inj ((show (Tryz.prog.globals[0]?).map (·.type) = some 236 by kernel_rfl).symm.trans ht2)
  have r0 : RepV (Vw.all W) (fun _ _ => none) (.ref (tab32.map fun m => .p (.int .u8 m))) (.pointer (some ⟨2, 0, none⟩)) := laid_ref (l := tab32) e0 hv0 Tryz.underlying261 Tryz.underlying5 (by kernel_rfl) hd0
  have r1 : RepV (Vw.all W) (fun _ _ => none) (.ref (tab64.map fun m => .p (.int .u8 m))) (.pointer (some ⟨3, 0, none⟩)) := laid_ref (l := tab64) e1 hv1 Tryz.underlying262 Tryz.underlying5 (by kernel_rfl) hd1
  have r2 : RepV (Vw.all W) (fun _ _ => none) (.ref (pow10.map fun m => .p (.int .u64 m))) (.pointer (some ⟨0, 0, none⟩)) := laid_ref (l := pow10) e2 hv2 Tryz.underlying236 Tryz.underlying147 (by kernel_rfl) hd2
  intro gid row hrow
  have hrow : lookN globTab gid = some row := hrow
  unfold globTab at hrow
  simp only [lookN] at hrow
  cases h2 : Nat.beq 2 gid with
  | true =>
    obtain rfl := Nat.eq_of_beq_eq_true h2
    rw [h2] at hrow
    cases hrow
    exact r0
  | false =>
    rw [h2] at hrow
    cases h3 : Nat.beq 3 gid with
    | true =>
      obtain rfl := Nat.eq_of_beq_eq_true h3
      rw [h3] at hrow
      cases hrow
      exact r1
    | false =>
      rw [h3] at hrow
      cases h4 : Nat.beq 0 gid with
      | true =>
        obtain rfl := Nat.eq_of_beq_eq_true h4
        rw [h4] at hrow
        cases hrow
        exact r2
      | false => rw [h4] at hrow; cases hrow
end Go.Vm
set_option linter.unusedVariables false
set_option maxRecDepth 100000
namespace Go.Vm
open Go Go.Proofs Go.ChangeShapes
section
variable {W : World}
theorem reach60 {n : Nat} (h : n ≤ reachBytes) : n < 2 ^ 60 := by unfold reachBytes at h; omega
theorem opensI : Opens Tryz.prog W 3 eInt (fun _ => True) := opens_mono (opens_int Tryz.underlying3) fun _ _ => trivial
theorem opensB : Opens Tryz.prog W 4 eBool (fun _ => True) := opens_bool Tryz.underlying4
theorem opensIs : Opens Tryz.prog W 27 (fun s : Sl Int => [s.enc eInt]) (fun s => s.l.length < 2 ^ 60) :=
  opens_mono (opens_slice Tryz.underlying27 opensI (by kernel_rfl) (by decide) (fun _ => rfl) (of_decide_eq_true (by kernel_rfl))) fun s h => reach60 h.1
theorem opensSs : Opens Tryz.prog W 35 (fun s : Sl ByteArray => [s.enc eStr]) (fun s => s.l.length < 2 ^ 60 ∧ ∀ x, x ∈ s.l → x.size < 2 ^ 60) :=
  opens_mono (opens_slice Tryz.underlying35 (opens_string Tryz.underlying9) (by kernel_rfl) (by decide) (fun _ => rfl) (of_decide_eq_true (by kernel_rfl))) fun s h => ⟨reach60 h.1, fun x hx => reach60 (h.2 x hx)⟩
theorem cel3 : Tryz.prog.cellsOf 3 = 1 := by kernel_rfl
theorem cel4 : Tryz.prog.cellsOf 4 = 1 := by kernel_rfl
theorem cel27 : Tryz.prog.cellsOf 27 = 1 := by kernel_rfl
theorem cel35 : Tryz.prog.cellsOf 35 = 1 := by kernel_rfl
theorem cel32 : Tryz.prog.cellsOf 32 = 1 := by kernel_rfl
theorem cel22 : Tryz.prog.cellsOf 22 = 1 := by kernel_rfl
theorem cel37 : Tryz.prog.cellsOf 37 = 4 := by kernel_rfl
theorem cel34 : Tryz.prog.cellsOf 34 = 3 := by kernel_rfl
theorem cel24 : Tryz.prog.cellsOf 24 = 2 := by kernel_rfl
theorem opensHead : Opens Tryz.prog W 37 Head.enc Head.ok0 := by
  intro H enc fuel cs x hx hw
  have hl := struct_len Tryz.underlying37 hx
  obtain ⟨a, _, _, ha⟩ := struct_field Tryz.underlying37 hx hw (i := 0) rfl opensI
  obtain ⟨b, hb0, _, hb⟩ := struct_field Tryz.underlying37 hx hw (i := 1) rfl opensSs
  obtain ⟨c, hc0, _, hc⟩ := struct_field Tryz.underlying37 hx hw (i := 2) rfl opensIs
  obtain ⟨d, _, _, hd⟩ := struct_field Tryz.underlying37 hx hw (i := 3) rfl opensB
  refine ⟨⟨a, b, c, d⟩, ⟨hb0.1, hb0.2, hc0⟩, by rw [hl, cel37]; rfl, fun i p y hp hy => ?_⟩
  match i with
  | 0 => cases hp; exact at1 ha rfl cel3 y hy
  | 1 => cases hp; exact at1 hb rfl cel35 y hy
  | 2 => cases hp; exact at1 hc rfl cel27 y hy
  | 3 => cases hp; exact at1 hd rfl cel4 y hy
  | i + 4 => cases hp
theorem opensHeads : Opens Tryz.prog W 32 (fun s : Sl Head => [s.enc Head.enc]) (fun s => s.l.length < 2 ^ 60 ∧ ∀ x, x ∈ s.l → x.ok0) :=
  opens_mono (opens_slice Tryz.underlying32 opensHead cel37 (by decide) (fun _ => rfl) (of_decide_eq_true (by kernel_rfl))) fun s h => ⟨reach60 h.1, h.2⟩
theorem opensState : Opens Tryz.prog W 34 StateP.enc StateP.ok0 := by
  intro H enc fuel cs x hx hw
  have hl := struct_len Tryz.underlying34 hx
  obtain ⟨a, _, _, ha⟩ := struct_field Tryz.underlying34 hx hw (i := 0) rfl opensB
  obtain ⟨b, hb0, _, hb⟩ := struct_field Tryz.underlying34 hx hw (i := 1) rfl opensHeads
  obtain ⟨c, hc0, _, hc⟩ := struct_field Tryz.underlying34 hx hw (i := 2) rfl opensIs
  refine ⟨⟨a, b, c⟩, ⟨hb0.1, hc0, hb0.2⟩, by rw [hl, cel34]; rfl, fun i p y hp hy => ?_⟩
  match i with
  | 0 => cases hp; exact at1 ha rfl cel4 y hy
  | 1 => cases hp; exact at1 hb rfl cel32 y hy
  | 2 => cases hp; exact at1 hc rfl cel27 y hy
  | i + 3 => cases hp
theorem opensStates : Opens Tryz.prog W 22 (fun s : Sl StateP => [s.enc StateP.enc]) (fun s => s.l.length < 2 ^ 60 ∧ ∀ x, x ∈ s.l → x.ok0) :=
  opens_mono (opens_slice Tryz.underlying22 opensState cel34 (by decide) (fun _ => rfl) (of_decide_eq_true (by kernel_rfl))) fun s h => ⟨reach60 h.1, h.2⟩
structure AutoA where
  L : Sl StateP
  root : Int
def AutoA.enc (x : AutoA) : List PV := AutoP.enc x.L x.root
structure AutoA.ok (x : AutoA) : Prop where
  len : x.L.l.length < 2 ^ 60
  each : ∀ s, s ∈ x.L.l → s.ok0
theorem opensAuto : Opens Tryz.prog W 24 AutoA.enc AutoA.ok := by
  intro H enc fuel cs x hx hw
  have hl := struct_len Tryz.underlying24 hx
  obtain ⟨a, ha0, _, ha⟩ := struct_field Tryz.underlying24 hx hw (i := 0) rfl opensStates
  obtain ⟨b, _, _, hb⟩ := struct_field Tryz.underlying24 hx hw (i := 1) rfl opensI
  refine ⟨⟨a, b⟩, ⟨ha0.1, ha0.2⟩, by rw [hl, cel24]; rfl, fun i p y hp hy => ?_⟩
  match i with
  | 0 => cases hp; exact at1 ha rfl cel22 y hy
  | 1 => cases hp; exact at1 hb rfl cel3 y hy
  | i + 2 => cases hp
end
def typesT : List Nat := [3, 4, 5, 9, 22, 24, 27, 32, 34, 35, 37]
theorem memN_mem : ∀ {l : List Nat} {n : Nat}, memN l n = true → n ∈ l := by
  intro l
  induction l with
  | nil => intro n h; cases h
  | cons a l ih =>
    intro n h
    simp only [memN, Bool.or_eq_true] at h
    rcases h with h | h
    · rw [Nat.eq_of_beq_eq_true h]; exact List.mem_cons_self
    · exact List.mem_cons_of_mem _ (ih h)
theorem typesT_ok : ∀ t, memN typesT t = true → kidsT Tryz.prog (memN typesT) t = true := by
  have key : (typesT.all (kidsT Tryz.prog (memN typesT))) = true := by kernel_rfl
  intro t h
  exact List.all_eq_true.1 key t (memN_mem h)
theorem arg_auto {W : World} {H : Type} {enc : TypeId × Value → H} {base : Nat} {v : Value} {d : DataW H} {ps : List MemPlace} (hv : Value.okWide Tryz.prog W .any base 24 v) (h : DataW.Trod enc Tryz.prog W 0 (fun _ => true) true 24 v d ps)
    (hw : (d.weights Tryz.prog 24).all (· ≤ reachBytes) = true) : ∃ x : AutoA, x.ok ∧ RepA (Vw.all W) (.agg (x.enc.map .p)) v := by
  obtain ⟨fuel, h⟩ := h
  obtain ⟨cs, rfl, _⟩ : ∃ cs, v = .agg cs ∧ True := by
    unfold Value.okWide at hv
    rw [Tryz.underlying24] at hv
    obtain ⟨cs, h1, _⟩ := hv
    exact ⟨cs, h1, trivial⟩
  obtain ⟨x, h1, h2, h3⟩ := opensAuto H enc fuel _ _ h hw
  exact ⟨x, h1, arg_agg h2 h3⟩
end Go.Vm
