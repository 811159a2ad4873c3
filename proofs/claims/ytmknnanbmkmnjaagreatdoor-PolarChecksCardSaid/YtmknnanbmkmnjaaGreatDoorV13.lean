/- Part 13 of the texts that the claim leans on: a judgement on the program over plain values, its soundness, and contracts of functions. -/
import Derived.Test.YtmknnanbmkmnjaaGreatDoorV12
set_option linter.unusedVariables false
namespace Go.Vm
open Go Go.Proofs
attribute [local irreducible] wpL
set_option maxRecDepth 20000 in
theorem graph_p (L : Sl Head) (root : Int) (hl : L.l.length < 2 ^ 60) (hh : ∀ h, h ∈ L.l → h.ok) : Pure En 41 [.agg [.p (L.enc Head.enc), .p (.int .i64 root)]] (.p (.int .i64 (graphB L.l root))) := by
  refine pure_walk [(0, .agg [.p (L.enc Head.enc), .p (.int .i64 root)])] Tryz.func41 rfl rfl rfl fun g hwo hwt => ?_
  show Wc En _ (Tryz.f41.body.getD .skip) [] (Sx 42 _ _ _ _ _ _)
  unfold Tryz.f41
  simp only [Option.getD_some]
  refine wc_seq ?_
  refine wc_reg fun K hK => ?_
  refine x_box rfl rfl rfl rfl rfl ?_
  refine x_assign rfl rfl rfl ?_
  refine x_nil (hK _ ?_); clear hK K
  refine go_seq ?_
  refine wc_seq ?_
  refine wc_seq ?_
  refine wc_reg fun K hK => ?_
  refine x_fa rfl rfl rfl fld40_0 rfl ?_
  refine x_ldL rfl rfl rfl isag32 rfl rfl ?_
  refine x_len rfl rfl rfl (by first | assumption | exact Rd.enc) und32 ?_
  refine x_bin rfl rfl rfl rfl rfl ?_
  refine x_moveS rfl rfl rfl (fun hg9 => ?_) (fun hg9 => ?_)
  · skip
    have hz : L.l.length = 0 := by simp only [beq_iff_eq] at hg9; omega
    refine x_skip rfl rfl ?_
    refine x_skip rfl rfl ?_
    refine x_skip rfl rfl ?_
    refine x_skip rfl rfl ?_
    refine x_pickT rfl rfl rfl rfl ?_
    refine x_move rfl rfl rfl ?_
    refine x_skip rfl rfl ?_
    refine x_skip rfl rfl ?_
    refine x_skip rfl rfl ?_
    refine x_pickT rfl rfl rfl rfl ?_
    refine x_move rfl rfl rfl ?_
    refine x_skip rfl rfl ?_
    refine x_skip rfl rfl ?_
    refine x_skip rfl rfl ?_
    refine x_skip rfl rfl ?_
    refine x_skip rfl rfl ?_
    refine x_skip rfl rfl ?_
    refine x_pickT rfl rfl rfl rfl ?_
    refine x_nil (hK _ ?_); clear hK K
    refine go_seq ?_
    refine xc_cond true rfl (fun _ => ?_) (fun h => by cases h)
    refine wc_seq ?_
    refine wc_reg fun K hK => ?_
    refine x_assign rfl rfl rfl ?_
    refine x_nil (hK _ ?_); clear hK K
    refine go_seq ?_
    refine wc_ret ?_
    refine go_seq_ret ?_
    exact x_end1 (Or.inr rfl) rfl rfl rfl rfl rfl rfl (ieq (by unfold graphB; rw [if_pos (by omega)]))
  · skip
    have hz : ¬ L.l.length = 0 := by simp only [beq_eq_false_iff_ne, ne_eq] at hg9; omega
    refine x_fa rfl rfl rfl fld40_0 rfl ?_
    refine x_ldL rfl rfl rfl isag32 rfl rfl ?_
    refine x_len rfl rfl rfl (by first | assumption | exact Rd.enc) und32 ?_
    refine x_bin rfl rfl rfl rfl rfl ?_
    refine x_pickF rfl rfl rfl rfl ?_
    refine x_moveS rfl rfl rfl (fun hg15 => ?_) (fun hg15 => ?_)
    · skip
      refine x_skip rfl rfl ?_
      refine x_skip rfl rfl ?_
      refine x_skip rfl rfl ?_
      refine x_pickT rfl rfl rfl rfl ?_
      refine x_move rfl rfl rfl ?_
      refine x_skip rfl rfl ?_
      refine x_skip rfl rfl ?_
      refine x_skip rfl rfl ?_
      refine x_skip rfl rfl ?_
      refine x_skip rfl rfl ?_
      refine x_skip rfl rfl ?_
      refine x_pickT rfl rfl rfl rfl ?_
      refine x_nil (hK _ ?_); clear hK K
      refine go_seq ?_
      refine xc_cond true rfl (fun _ => ?_) (fun h => by cases h)
      refine wc_seq ?_
      refine wc_reg fun K hK => ?_
      refine x_assign rfl rfl rfl ?_
      refine x_nil (hK _ ?_); clear hK K
      refine go_seq ?_
      refine wc_ret ?_
      refine go_seq_ret ?_
      exact x_end1 (Or.inr rfl) rfl rfl rfl rfl rfl rfl (ieq (by unfold graphB; rw [if_pos (by simp at hg15; omega)]))
    · skip
      refine x_fa rfl rfl rfl fld40_1 rfl ?_
      refine x_ldL rfl rfl rfl isag3 rfl rfl ?_
      refine x_bin rfl rfl rfl rfl rfl ?_
      refine x_pickF rfl rfl rfl rfl ?_
      refine x_moveS rfl rfl rfl (fun hg20 => ?_) (fun hg20 => ?_)
      · skip
        refine x_skip rfl rfl ?_
        refine x_skip rfl rfl ?_
        refine x_skip rfl rfl ?_
        refine x_skip rfl rfl ?_
        refine x_skip rfl rfl ?_
        refine x_skip rfl rfl ?_
        refine x_pickT rfl rfl rfl rfl ?_
        refine x_nil (hK _ ?_); clear hK K
        refine go_seq ?_
        refine xc_cond true rfl (fun _ => ?_) (fun h => by cases h)
        refine wc_seq ?_
        refine wc_reg fun K hK => ?_
        refine x_assign rfl rfl rfl ?_
        refine x_nil (hK _ ?_); clear hK K
        refine go_seq ?_
        refine wc_ret ?_
        refine go_seq_ret ?_
        exact x_end1 (Or.inr rfl) rfl rfl rfl rfl rfl rfl (ieq (by unfold graphB; rw [if_pos (by simp at hg20; omega)]))
      · skip
        refine x_fa rfl rfl rfl fld40_1 rfl ?_
        refine x_ldL rfl rfl rfl isag3 rfl rfl ?_
        refine x_fa rfl rfl rfl fld40_0 rfl ?_
        refine x_ldL rfl rfl rfl isag32 rfl rfl ?_
        refine x_len rfl rfl rfl (by first | assumption | exact Rd.enc) und32 ?_
        refine x_bin rfl rfl rfl rfl rfl ?_
        refine x_pickF rfl rfl rfl rfl ?_
        refine x_nil (hK _ ?_); clear hK K
        refine go_seq ?_
        refine xc_cond _ rfl (fun hc0 => ?_) (fun hc0 => ?_)
        · skip
          refine wc_seq ?_
          refine wc_reg fun K hK => ?_
          refine x_assign rfl rfl rfl ?_
          refine x_nil (hK _ ?_); clear hK K
          refine go_seq ?_
          refine wc_ret ?_
          refine go_seq_ret ?_
          exact x_end1 (Or.inr rfl) rfl rfl rfl rfl rfl rfl (ieq (by unfold graphB; rw [if_pos (by simp at hc0; omega)]))
        · skip
          have hbig : ¬(L.l.length = 0 ∨ 4096 < L.l.length ∨ root < 0 ∨ (L.l.length : Int) ≤ root) := by simp at hg15 hg20 hc0; omega
          refine wc_skip ?_
          refine go_seq ?_
          refine wc_seq ?_
          refine wc_seq ?_
          refine wc_reg fun K hK => ?_
          refine x_fa rfl rfl rfl fld40_0 rfl ?_
          refine x_ldL rfl rfl rfl isag32 rfl rfl ?_
          refine x_len rfl rfl rfl (by first | assumption | exact Rd.enc) und32 ?_
          refine x_move rfl rfl rfl ?_
          refine x_nil (hK _ ?_); clear hK K
          refine go_seq ?_
          refine wc_block ?_
          refine xc_loop [(1, _), (29, _), (30, _)] [(1, _)] (fun j : Nat => [(31, .p (.int .i64 j))]) (fun j : Nat => j ≤ L.l.length ∧ ∀ i, i < j → ∃ c, L.l[i]? = some c ∧ c.good L.l.length = true) (fun j : Nat => L.l.length - j) 0 (by repeat (first | exact trivial | refine And.intro rfl ?_)) (by repeat (first | exact trivial | refine And.intro rfl ?_)) ⟨Nat.zero_le _, fun i hi => by omega⟩ ?_
          rintro j R hR1 hR2 ⟨hj, hr⟩ b rb
          refine wc_seq ?_
          refine wc_reg fun K hK => ?_
          refine x_bin rfl rfl rfl rfl rfl ?_
          refine x_nil (hK _ ?_); clear hK K
          refine go_seq ?_
          refine wc_seq ?_
          refine xc_cond _ rfl (fun hc1 => ?_) (fun hc1 => ?_)
          · skip
            have hlt : j < L.l.length := by simp at hc1; omega
            obtain ⟨h, e1⟩ : ∃ h, L.l[j]? = some h := ⟨_, List.getElem?_eq_getElem hlt⟩
            have hm : h ∈ L.l := List.mem_of_getElem? e1
            refine wc_skip ?_
            refine go_seq ?_
            refine wc_seq ?_
            refine wc_block ?_
            refine wc_seq ?_
            refine wc_reg fun K hK => ?_
            refine x_ia rfl rfl rfl (by first | assumption | exact Rd.enc) rfl und32 sz37 rfl (by assumption) rfl ?_
            refine x_ldRA rfl rfl rfl isag37 sz37 rfl ?_
            refine x_alloc rfl rfl rfl zero37 rfl ?_
            refine x_stL rfl rfl rfl sz37 rfl rfl rfl rfl ?_
            refine x_nil (hK _ ?_); clear hK K
            refine go_seq ?_
            refine wc_seq ?_
            refine wc_reg fun K hK => ?_
            refine x_ldLA rfl rfl rfl isag37 sz37 rfl rfl ?_
            refine x_fa rfl rfl rfl fld40_0 rfl ?_
            refine x_ldL rfl rfl rfl isag32 rfl rfl ?_
            refine x_len rfl rfl rfl (by first | assumption | exact Rd.enc) und32 ?_
            refine x_call rfl rfl rfl (by repeat (first | exact ho_nil | refine ho_cons (by first | rfl | exact rd_ho (by assumption)) ?_)) okf67 (head_p h.kind h.names h.op L.l.length (hh _ hm).names (hh _ hm).each (hh _ hm).kids rfl) ?_
            refine x_not rfl rfl rfl ?_
            refine x_nil (hK _ ?_); clear hK K
            refine go_seq ?_
            refine xc_cond _ rfl (fun hc2 => ?_) (fun hc2 => ?_)
            · skip
              refine wc_seq ?_
              refine wc_reg fun K hK => ?_
              refine x_assign rfl rfl rfl ?_
              refine x_nil (hK _ ?_); clear hK K
              refine go_seq ?_
              refine wc_ret ?_
              refine go_blk_ret ?_
              refine go_seq_ret ?_
              refine hR2 _ _ (by simp) ?_
              refine go_blk_ret ?_
              refine go_seq_ret ?_
              exact x_end1 (Or.inr rfl) rfl rfl rfl rfl rfl rfl (ieq (by unfold graphB; have : L.l.all (fun h => h.good L.l.length) = false := all_not hm (by simpa [Head.good] using hc2); rw [if_neg hbig, this]; rfl))
            · skip
              refine wc_skip ?_
              refine go_blk ?_
              refine go_seq ?_
              refine wc_reg fun K hK => ?_
              refine x_inc rfl rfl rfl rfl (by omega) ?_
              refine x_move rfl rfl rfl ?_
              refine x_nil (hK _ ?_); clear hK K
              exact hR1 (j + 1) _ _ _ _ ⟨hlt, leadP_up (p := fun h : Head => h.good L.l.length) hr e1 (by simpa [Head.good] using hc2)⟩ (by omega) (by repeat (first | exact trivial | refine And.intro rfl ?_)) (by repeat (first | exact trivial | refine And.intro rfl ?_))
          · skip
            refine wc_exit ?_
            refine go_seq_exit ?_
            refine hR2 _ _ (by simp) ?_
            refine go_blk_exit ?_
            refine go_seq ?_
            refine wc_seq ?_
            refine wc_reg fun K hK => ?_
            refine x_assign rfl rfl rfl ?_
            refine x_nil (hK _ ?_); clear hK K
            refine go_seq ?_
            refine wc_ret ?_
            exact x_end1 (Or.inr rfl) rfl rfl rfl rfl rfl rfl (ieq (by unfold graphB; have : L.l.all (fun h => h.good L.l.length) = true := all_lead fun i hi => hr i (by simp at hc1; omega); rw [if_neg hbig, this]; rfl))
set_option maxRecDepth 20000 in
theorem graph_a {g0 : G} (k : Int) (nm : Sl ByteArray) (o : Bool) (hn : nm.l.length < 2 ^ 60) (hs : ∀ s, s ∈ nm.l → s.size < 2 ^ 60) {a : List Int} (ha : a.length < 2 ^ 30) {id off cap : Nat} {cs : List V} (hid : g0.objs[id]? = some (.cells cs)) (hcs : ∀ j, (h : j < a.length) → cs[off + (j : Int).toNat * 1]? = some (eI a[j])) : CallsAt En g0 41 [.agg [.sl [[.p (.int .i64 k), .p (nm.enc eStr), .arr id off a.length cap 1, .p (.bool o)]] .exact, .p (.int .i64 0)]] (.p (.int .i64 (if headB k nm a o 1 then 0 else 14))) g0 := by
  refine at_walk [(0, .agg [.sl [[.p (.int .i64 k), .p (nm.enc eStr), .arr id off a.length cap 1, .p (.bool o)]] .exact, .p (.int .i64 0)])] Tryz.func41 rfl rfl rfl fun g hgo hgt hwo hwt => ?_
  show Wc En _ (Tryz.f41.body.getD .skip) [] (Sx 42 _ _ _ _ _ _)
  unfold Tryz.f41
  simp only [Option.getD_some]
  refine wc_seq ?_
  refine wc_reg fun K hK => ?_
  refine x_box rfl rfl rfl rfl rfl ?_
  refine x_assign rfl rfl rfl ?_
  refine x_nil (hK _ ?_); clear hK K
  refine go_seq ?_
  refine wc_seq ?_
  refine wc_seq ?_
  refine wc_reg fun K hK => ?_
  refine x_fa rfl rfl rfl fld40_0 rfl ?_
  refine x_ldL rfl rfl rfl isag32 rfl rfl ?_
  refine x_lenV rfl rfl rfl und32 ?_
  refine x_bin rfl rfl rfl rfl rfl ?_
  refine x_moveS rfl rfl rfl (fun hg9 => ?_) (fun hg9 => ?_)
  · skip
    cases hg9
  · skip
    refine x_fa rfl rfl rfl fld40_0 rfl ?_
    refine x_ldL rfl rfl rfl isag32 rfl rfl ?_
    refine x_lenV rfl rfl rfl und32 ?_
    refine x_bin rfl rfl rfl rfl rfl ?_
    refine x_pickF rfl rfl rfl rfl ?_
    refine x_moveS rfl rfl rfl (fun hg15 => ?_) (fun hg15 => ?_)
    · skip
      cases hg15
    · skip
      refine x_fa rfl rfl rfl fld40_1 rfl ?_
      refine x_ldL rfl rfl rfl isag3 rfl rfl ?_
      refine x_bin rfl rfl rfl rfl rfl ?_
      refine x_pickF rfl rfl rfl rfl ?_
      refine x_moveS rfl rfl rfl (fun hg20 => ?_) (fun hg20 => ?_)
      · skip
        cases hg20
      · skip
        refine x_fa rfl rfl rfl fld40_1 rfl ?_
        refine x_ldL rfl rfl rfl isag3 rfl rfl ?_
        refine x_fa rfl rfl rfl fld40_0 rfl ?_
        refine x_ldL rfl rfl rfl isag32 rfl rfl ?_
        refine x_lenV rfl rfl rfl und32 ?_
        refine x_bin rfl rfl rfl rfl rfl ?_
        refine x_pickF rfl rfl rfl rfl ?_
        refine x_nil (hK _ ?_); clear hK K
        refine go_seq ?_
        refine xc_cond _ rfl (fun hc0 => ?_) (fun hc0 => ?_)
        · skip
          cases hc0
        · skip
          refine wc_skip ?_
          refine go_seq ?_
          refine wc_seq ?_
          refine wc_seq ?_
          refine wc_reg fun K hK => ?_
          refine x_fa rfl rfl rfl fld40_0 rfl ?_
          refine x_ldL rfl rfl rfl isag32 rfl rfl ?_
          refine x_lenV rfl rfl rfl und32 ?_
          refine x_move rfl rfl rfl ?_
          refine x_nil (hK _ ?_); clear hK K
          refine go_seq ?_
          refine wc_block ?_
          refine xc_loop [(1, _), (29, _), (30, _)] [(1, _)] (fun j : Nat => [(31, .p (.int .i64 j))]) (fun j : Nat => j = 0 ∨ (j = 1 ∧ headB k nm a o 1 = true)) (fun j : Nat => 1 - j) 0 (by repeat (first | exact trivial | refine And.intro rfl ?_)) (by repeat (first | exact trivial | refine And.intro rfl ?_)) (Or.inl rfl) ?_
          rintro j R hR1 hR2 hj b rb
          refine wc_seq ?_
          refine wc_reg fun K hK => ?_
          refine x_bin rfl rfl rfl rfl rfl ?_
          refine x_nil (hK _ ?_); clear hK K
          refine go_seq ?_
          refine wc_seq ?_
          refine xc_cond _ rfl (fun hc1 => ?_) (fun hc1 => ?_)
          · skip
            obtain rfl : j = 0 := by simp at hc1; omega
            refine wc_skip ?_
            refine go_seq ?_
            refine wc_seq ?_
            refine wc_block ?_
            refine wc_seq ?_
            refine wc_reg fun K hK => ?_
            refine x_iaS rfl rfl rfl rfl und32 sz37 rfl rfl rfl ?_
            refine x_ldRA rfl rfl rfl isag37 sz37 rfl ?_
            refine x_alloc rfl rfl rfl zero37 rfl ?_
            refine x_stL rfl rfl rfl sz37 rfl rfl rfl rfl ?_
            refine x_nil (hK _ ?_); clear hK K
            refine go_seq ?_
            refine wc_seq ?_
            refine wc_reg fun K hK => ?_
            refine x_ldLA rfl rfl rfl isag37 sz37 rfl rfl ?_
            refine x_fa rfl rfl rfl fld40_0 rfl ?_
            refine x_ldL rfl rfl rfl isag32 rfl rfl ?_
            refine x_lenV rfl rfl rfl und32 ?_
            refine x_call rfl rfl rfl (by repeat (first | exact ho_nil | refine ho_cons (by first | rfl | exact rd_ho (by assumption)) ?_)) okf67 (head_a k nm o 1 hn hs ha (by rw [hgo]; exact hid) hcs) ?_
            refine x_not rfl rfl rfl ?_
            refine x_nil (hK _ ?_); clear hK K
            refine go_seq ?_
            refine xc_cond _ rfl (fun hc2 => ?_) (fun hc2 => ?_)
            · skip
              refine wc_seq ?_
              refine wc_reg fun K hK => ?_
              refine x_assign rfl rfl rfl ?_
              refine x_nil (hK _ ?_); clear hK K
              refine go_seq ?_
              refine wc_ret ?_
              refine go_blk_ret ?_
              refine go_seq_ret ?_
              refine hR2 _ _ (by simp) ?_
              refine go_blk_ret ?_
              refine go_seq_ret ?_
              exact x_end1 (Or.inr rfl) rfl rfl rfl rfl rfl rfl (ieq (by have : headB k nm a o 1 = false := (by simpa using hc2); rw [this]; rfl))
            · skip
              refine wc_skip ?_
              refine go_blk ?_
              refine go_seq ?_
              refine wc_reg fun K hK => ?_
              refine x_inc rfl rfl rfl rfl (by omega) ?_
              refine x_move rfl rfl rfl ?_
              refine x_nil (hK _ ?_); clear hK K
              exact hR1 1 _ _ _ _ (Or.inr ⟨rfl, by simpa using hc2⟩) (by omega) (by repeat (first | exact trivial | refine And.intro rfl ?_)) (by repeat (first | exact trivial | refine And.intro rfl ?_))
          · skip
            refine wc_exit ?_
            refine go_seq_exit ?_
            refine hR2 _ _ (by simp) ?_
            refine go_blk_exit ?_
            refine go_seq ?_
            refine wc_seq ?_
            refine wc_reg fun K hK => ?_
            refine x_assign rfl rfl rfl ?_
            refine x_nil (hK _ ?_); clear hK K
            refine go_seq ?_
            refine wc_ret ?_
            exact x_end1 (Or.inr rfl) rfl rfl rfl rfl rfl rfl (ieq (by have : headB k nm a o 1 = true := (by rcases hj with rfl | ⟨_, h⟩; (cases hc1); exact h); rw [this]; rfl))
end Go.Vm
set_option linter.unusedVariables false
namespace Go.Vm
open Go Go.Proofs
structure StateP where
  plus : Bool
  heads : Sl Head
  vars : Sl Int
def StateP.enc (s : StateP) : List PV := [.bool s.plus, s.heads.enc Head.enc, s.vars.enc eInt]
def AutoP.enc (L : Sl StateP) (root : Int) : List PV := [L.enc StateP.enc, .int .i64 root]
structure StateP.ok (s : StateP) : Prop where
  heads : s.heads.l.length < 2 ^ 30
  vars : s.vars.l.length < 2 ^ 30
  each : ∀ h, h ∈ s.heads.l → h.ok
def kidB (L : List StateP) (pl : Bool) (kind : Int) (i : Nat) (k : Int) : Bool :=
  decide (0 ≤ k) && decide (k < L.length) && ((L[k.toNat]?.map (·.plus)).getD false == (pl != (kind == 7 && i == 0)))
def kidsB (L : List StateP) (pl : Bool) (kind : Int) (a : List Int) : Bool := (List.range a.length).all fun i => kidB L pl kind i (a.getD i 0)
def pheadB (L : List StateP) (pl : Bool) (h : Head) : Bool := headB h.kind h.names (List.replicate h.kids.l.length 0) h.op 1 && kidsB L pl h.kind h.kids.l
theorem kidsB_yes {L : List StateP} {pl : Bool} {kind : Int} {a : List Int} (h : ∀ i, i < a.length → kidB L pl kind i (a.getD i 0) = true) : kidsB L pl kind a = true := by
  unfold kidsB
  rw [List.all_eq_true]
  intro i hi
  exact h i (List.mem_range.1 hi)
theorem kidsB_no {L : List StateP} {pl : Bool} {kind : Int} {a : List Int} {i : Nat} (hi : i < a.length) (h : kidB L pl kind i (a.getD i 0) = false) : kidsB L pl kind a = false := by
  unfold kidsB
  rw [List.all_eq_false]
  exact ⟨i, List.mem_range.2 hi, by rw [h]; simp⟩
theorem kid_T {p q : Bool} {kd : Int} {j : Nat} {r : Bool} (h : (kd == 7) = true) (hc : (!(p == !(q == ((j : Int) == 0)))) = r) : (p == (q != (kd == 7 && j == 0))) = !r := by
  have e : ((j : Int) == 0) = (j == 0) := by rw [Bool.eq_iff_iff]; simp
  rw [e] at hc
  rw [h, ← hc]
  cases p <;> cases q <;> cases (j == 0) <;> rfl
theorem kid_F {p q : Bool} {kd : Int} {j : Nat} {r : Bool} (h : (kd == 7) = false) (hc : (!(p == !(q == false))) = r) : (p == (q != (kd == 7 && j == 0))) = !r := by
  rw [h, ← hc]
  cases p <;> cases q <;> rfl
theorem graph_z {g : G} (k : Int) (nm : Sl ByteArray) (o : Bool) (hn : nm.l.length < 2 ^ 60) (hs : ∀ s, s ∈ nm.l → s.size < 2 ^ 60) {m : Nat} (hm : m < 2 ^ 30) :
    CallsAt En (g.ext [.cells (List.replicate m [V.p (.int .i64 0)]).flatten] []) 41 [.agg [.sl [[.p (.int .i64 k), .p (nm.enc eStr), .arr (g.objs.length + 0) 0 m m 1, .p (.bool o)]] .exact, .p (.int .i64 0)]] (.p (.int .i64 (if headB k nm (List.replicate m 0) o 1 then 0 else 14))) (g.ext [.cells (List.replicate m [V.p (.int .i64 0)]).flatten] []) := by
  have := graph_a (g0 := g.ext [.cells (List.replicate m [V.p (.int .i64 0)]).flatten] []) k nm o hn hs (a := List.replicate m 0) (by simpa using hm) (id := g.objs.length + 0) (off := 0) (cap := m) (cs := (List.replicate m [V.p (.int .i64 0)]).flatten) (by rw [ext_obj]; rfl) (by
    intro j h
    simp at h
    simp [List.flatten_replicate_singleton, eI, h])
  simpa only [List.length_replicate] using this
end Go.Vm
set_option linter.unusedVariables false
namespace Go.Vm
open Go Go.Proofs
attribute [local irreducible] wpL
set_option maxRecDepth 20000 in
theorem phead_ok (L : Sl StateP) (root : Int) (s : StateP) (h : Head) (hL : L.l.length < 2 ^ 60) (hh : h.ok) : Pure En 64 [.agg ((AutoP.enc L root).map .p), .agg (s.enc.map .p), .agg (h.enc.map .p)] (.p (.bool (pheadB L.l s.plus h))) := by
  have hk := hh.kids
  refine pure_walk [(0, .agg ((AutoP.enc L root).map .p)), (1, .agg (s.enc.map .p)), (2, .agg (h.enc.map .p))] Tryz.func64 rfl rfl rfl fun g hwo hwt => ?_
  show Wc En _ (Tryz.f64.body.getD .skip) [] (Sx 63 _ _ _ _ _ _)
  unfold Tryz.f64
  simp only [Option.getD_some]
  rw [← G.ext_nil g]
  refine wc_seq ?_
  refine wc_reg fun K hK => ?_
  refine x_box rfl rfl rfl rfl rfl ?_
  refine x_box rfl rfl rfl rfl rfl ?_
  refine x_box rfl rfl rfl rfl rfl ?_
  refine x_assign rfl rfl rfl ?_
  refine x_nil (hK _ ?_); clear hK K
  refine go_seq ?_
  refine wc_seq ?_
  refine xc_drwP (.seg [0] (.adr 1 [(9, false), (13, false)] (.seg [2] (.adr 3 [(9, false), (13, false)] (.seg [4] (.adr 5 [(9, false), (13, false)] (.seg [6] (.adr 7 [(13, false)] (.adr 8 [(13, false)] (.seg [9, 10, 11, 12, 13, 14] .fin)))))))))) mixed (by kernel_rfl) fun K hK => ?_
  refine pl_seg ?_
  refine x_fa rfl rfl rfl fld37_0 rfl ?_
  refine pl_end ?_
  refine pl_adr rfl ?_
  refine x_ldL rfl rfl rfl isag3 rfl rfl ?_
  refine pl_end ?_
  refine pl_seg ?_
  refine x_fa rfl rfl rfl fld37_1 rfl ?_
  refine pl_end ?_
  refine pl_adr rfl ?_
  refine x_ldL rfl rfl rfl isag35 rfl rfl ?_
  refine pl_end ?_
  refine pl_seg ?_
  refine x_fa rfl rfl rfl fld37_3 rfl ?_
  refine pl_end ?_
  refine pl_adr rfl ?_
  refine x_ldL rfl rfl rfl isag4 rfl rfl ?_
  refine pl_end ?_
  refine pl_seg ?_
  refine x_fa rfl rfl rfl fld37_2 rfl ?_
  refine pl_end ?_
  refine pl_adr rfl ?_
  refine x_ldL rfl rfl rfl isag27 rfl rfl ?_
  refine pl_end ?_
  refine pl_adr rfl ?_
  refine x_len rfl rfl rfl (by first | assumption | exact Rd.enc) und27 ?_
  refine pl_end ?_
  refine pl_seg ?_
  refine x_mkslice rfl rfl rfl rfl el27 zero3 inf3 rfl (by omega) (by omega) ?_
  refine x_buildU rfl rfl zero37 rfl pl37 rfl ?_
  refine x_bs rfl rfl rfl el32 sz37 zero37 rfl rfl rfl ?_
  refine x_buildU rfl rfl zero40 rfl pl40 rfl ?_
  refine x_alloc rfl rfl rfl zero40 rfl ?_
  refine x_stL rfl rfl rfl sz40 rfl rfl rfl rfl ?_
  refine pl_end ?_
  refine pl_fin (hK _ ?_); clear hK K
  refine go_seq ?_
  refine wc_seq ?_
  refine wc_seq ?_
  refine wc_reg fun K hK => ?_
  refine x_ldLA rfl rfl rfl isag40 sz40 rfl rfl ?_
  refine x_call rfl rfl rfl (by repeat (first | exact ho_nil | refine ho_cons (by first | rfl | exact rd_ho (by assumption)) ?_)) okf41 (graph_z h.kind h.names h.op hh.names hh.each hh.kids) ?_
  refine x_bin rfl rfl rfl rfl rfl ?_
  refine x_nil (hK _ ?_); clear hK K
  refine go_seq ?_
  refine xc_cond _ rfl (fun hc0 => ?_) (fun hc0 => ?_)
  · skip
    refine wc_seq ?_
    refine wc_reg fun K hK => ?_
    refine x_assign rfl rfl rfl ?_
    refine x_nil (hK _ ?_); clear hK K
    refine go_seq ?_
    refine wc_ret ?_
    refine go_seq_ret ?_
    exact x_end1 (Or.inr rfl) rfl rfl rfl rfl rfl rfl (by congr 2; simp_all [pheadB])
  · skip
    have hgood : headB h.kind h.names (List.replicate h.kids.l.length 0) h.op 1 = true := by simpa using hc0
    refine wc_skip ?_
    refine go_seq ?_
    refine wc_seq ?_
    refine wc_seq ?_
    refine wc_reg fun K hK => ?_
    refine x_fa rfl rfl rfl fld37_2 rfl ?_
    refine x_ldL rfl rfl rfl isag27 rfl rfl ?_
    refine x_len rfl rfl rfl (by first | assumption | exact Rd.enc) und27 ?_
    refine x_move rfl rfl rfl ?_
    refine x_nil (hK _ ?_); clear hK K
    refine go_seq ?_
    refine wc_block ?_
    refine xc_loop [(3, _), (4, _), (5, _), (27, _), (28, _)] [(3, _), (4, _), (5, _)] (fun j : Nat => [(29, .p (.int .i64 j))]) (fun j : Nat => j ≤ h.kids.l.length ∧ ∀ i, i < j → kidB L.l s.plus h.kind i (h.kids.l.getD i 0) = true) (fun j : Nat => h.kids.l.length - j) 0 (by repeat (first | exact trivial | refine And.intro rfl ?_)) (by repeat (first | exact trivial | refine And.intro rfl ?_)) ⟨Nat.zero_le _, fun i hi => by omega⟩ ?_
    rintro j R hR1 hR2 ⟨hj, hr⟩ b rb
    refine wc_seq ?_
    refine wc_reg fun K hK => ?_
    refine x_bin rfl rfl rfl rfl rfl ?_
    refine x_nil (hK _ ?_); clear hK K
    refine go_seq ?_
    refine wc_seq ?_
    refine xc_cond _ rfl (fun hc1 => ?_) (fun hc1 => ?_)
    · skip
      have hlt : j < h.kids.l.length := by simp at hc1; omega
      have e1 : h.kids.l[j]? = some h.kids.l[j] := by simp
      have e3 : h.kids.l.getD j 0 = h.kids.l[j] := by rw [List.getD_eq_getElem?_getD, e1]; rfl
      refine wc_skip ?_
      refine go_seq ?_
      refine wc_seq ?_
      refine wc_block ?_
      refine wc_seq ?_
      refine wc_reg fun K hK => ?_
      refine x_move rfl rfl rfl ?_
      refine x_ia rfl rfl rfl (by first | assumption | exact Rd.enc) rfl und27 sz3 rfl (by assumption) rfl ?_
      refine x_ldR rfl rfl rfl isag3 rfl ?_
      refine x_assign rfl rfl rfl ?_
      refine x_assign rfl rfl rfl ?_
      refine x_nil (hK _ ?_); clear hK K
      refine go_seq ?_
      refine wc_seq ?_
      refine xc_drw [0, 1, 2, 3, 4, 5, 6, 7, 8, 9, 10, 11, 12, 13, 14, 15, 16, 17, 18, 19, 20, 21, 22, 23, 24, 25, 26, 27] mixed (by kernel_rfl) fun K hK => ?_
      refine x_move rfl rfl rfl ?_
      refine x_bin rfl rfl rfl rfl rfl ?_
      refine x_moveS rfl rfl rfl (fun hg36 => ?_) (fun hg36 => ?_)
      · skip
        refine x_skip rfl rfl ?_
        refine x_skip rfl rfl ?_
        refine x_skip rfl rfl ?_
        refine x_skip rfl rfl ?_
        refine x_skip rfl rfl ?_
        refine x_pickT rfl rfl rfl rfl ?_
        refine x_move rfl rfl rfl ?_
        refine x_skip rfl rfl ?_
        refine x_skip rfl rfl ?_
        refine x_skip rfl rfl ?_
        refine x_skip rfl rfl ?_
        refine x_skip rfl rfl ?_
        refine x_skip rfl rfl ?_
        refine x_skip rfl rfl ?_
        refine x_skip rfl rfl ?_
        refine x_skip rfl rfl ?_
        refine x_skip rfl rfl ?_
        refine x_skip rfl rfl ?_
        refine x_skip rfl rfl ?_
        refine x_skip rfl rfl ?_
        refine x_skip rfl rfl ?_
        refine x_skip rfl rfl ?_
        refine x_skip rfl rfl ?_
        refine x_skip rfl rfl ?_
        refine x_pickT rfl rfl rfl rfl ?_
        refine x_nil (hK _ ?_); clear hK K
        refine go_seq ?_
        refine xc_cond true rfl (fun _ => ?_) (fun h => by cases h)
        refine wc_seq ?_
        refine wc_reg fun K hK => ?_
        refine x_assign rfl rfl rfl ?_
        refine x_nil (hK _ ?_); clear hK K
        refine go_seq ?_
        refine wc_ret ?_
        refine go_blk_ret ?_
        refine go_seq_ret ?_
        refine hR2 _ _ (by simp) ?_
        refine go_blk_ret ?_
        refine go_seq_ret ?_
        exact x_end1 (Or.inr rfl) rfl rfl rfl rfl rfl rfl (by congr 2; simp only [pheadB, hgood, Bool.true_and]; exact (kidsB_no hlt (by rw [e3]; simp at hg36; simp only [kidB]; rw [decide_eq_false (by omega)]; rfl)).symm)
      · skip
        refine x_move rfl rfl rfl ?_
        refine x_fa rfl rfl rfl fld24_0 rfl ?_
        refine x_ldL rfl rfl rfl isag22 rfl rfl ?_
        refine x_len rfl rfl rfl (by first | assumption | exact Rd.enc) und22 ?_
        refine x_bin rfl rfl rfl rfl rfl ?_
        refine x_pickF rfl rfl rfl rfl ?_
        refine x_moveS rfl rfl rfl (fun hg43 => ?_) (fun hg43 => ?_)
        · skip
          refine x_skip rfl rfl ?_
          refine x_skip rfl rfl ?_
          refine x_skip rfl rfl ?_
          refine x_skip rfl rfl ?_
          refine x_skip rfl rfl ?_
          refine x_skip rfl rfl ?_
          refine x_skip rfl rfl ?_
          refine x_skip rfl rfl ?_
          refine x_skip rfl rfl ?_
          refine x_skip rfl rfl ?_
          refine x_skip rfl rfl ?_
          refine x_skip rfl rfl ?_
          refine x_skip rfl rfl ?_
          refine x_skip rfl rfl ?_
          refine x_skip rfl rfl ?_
          refine x_skip rfl rfl ?_
          refine x_skip rfl rfl ?_
          refine x_pickT rfl rfl rfl rfl ?_
          refine x_nil (hK _ ?_); clear hK K
          refine go_seq ?_
          refine xc_cond true rfl (fun _ => ?_) (fun h => by cases h)
          refine wc_seq ?_
          refine wc_reg fun K hK => ?_
          refine x_assign rfl rfl rfl ?_
          refine x_nil (hK _ ?_); clear hK K
          refine go_seq ?_
          refine wc_ret ?_
          refine go_blk_ret ?_
          refine go_seq_ret ?_
          refine hR2 _ _ (by simp) ?_
          refine go_blk_ret ?_
          refine go_seq_ret ?_
          exact x_end1 (Or.inr rfl) rfl rfl rfl rfl rfl rfl (by congr 2; simp only [pheadB, hgood, Bool.true_and]; exact (kidsB_no hlt (by rw [e3]; simp at hg43; simp only [kidB]; rw [decide_eq_false (p := _ < _) (by omega), Bool.and_false]; rfl)).symm)
        · skip
          have h0 : 0 ≤ h.kids.l[j] := by simp at hg36; omega
          have hlen : h.kids.l[j] < L.l.length := by simp at hg43; omega
          have h2 : (h.kids.l[j]).toNat < L.l.length := by omega
          obtain ⟨st, e2⟩ : ∃ st, L.l[(h.kids.l[j]).toNat]? = some st := ⟨_, List.getElem?_eq_getElem h2⟩
          have hkb : kidB L.l s.plus h.kind j (h.kids.l.getD j 0) = (st.plus == (s.plus != (h.kind == 7 && j == 0))) := by rw [e3]; simp only [kidB, h0, hlen, decide_true, Bool.true_and, e2, Option.map_some, Option.getD_some]
          refine x_fa rfl rfl rfl fld24_0 rfl ?_
          refine x_ldL rfl rfl rfl isag22 rfl rfl ?_
          refine x_move rfl rfl rfl ?_
          refine x_iaI rfl rfl rfl Rd.enc rfl und22 sz34 rfl h0 e2 rfl ?_
          refine x_fa rfl rfl rfl fld34_0 rfl ?_
          refine x_ldR rfl rfl rfl isag4 rfl ?_
          refine x_fa rfl rfl rfl fld34_0 rfl ?_
          refine x_ldL rfl rfl rfl isag4 rfl rfl ?_
          refine x_fa rfl rfl rfl fld37_0 rfl ?_
          refine x_ldL rfl rfl rfl isag3 rfl rfl ?_
          refine x_bin rfl rfl rfl rfl rfl ?_
          refine x_moveS rfl rfl rfl (fun hg55 => ?_) (fun hg55 => ?_)
          · skip
            refine x_move rfl rfl rfl ?_
            refine x_bin rfl rfl rfl rfl rfl ?_
            refine x_pickT rfl rfl rfl rfl ?_
            refine x_bin rfl rfl rfl rfl rfl ?_
            refine x_bin rfl rfl rfl rfl rfl ?_
            refine x_pickF rfl rfl rfl rfl ?_
            refine x_nil (hK _ ?_); clear hK K
            refine go_seq ?_
            refine xc_cond _ rfl (fun hc2 => ?_) (fun hc2 => ?_)
            · skip
              refine wc_seq ?_
              refine wc_reg fun K hK => ?_
              refine x_assign rfl rfl rfl ?_
              refine x_nil (hK _ ?_); clear hK K
              refine go_seq ?_
              refine wc_ret ?_
              refine go_blk_ret ?_
              refine go_seq_ret ?_
              refine hR2 _ _ (by simp) ?_
              refine go_blk_ret ?_
              refine go_seq_ret ?_
              exact x_end1 (Or.inr rfl) rfl rfl rfl rfl rfl rfl (by congr 2; simp only [pheadB, hgood, Bool.true_and]; exact (kidsB_no hlt (by rw [hkb]; exact kid_T hg55 hc2)).symm)
            · skip
              refine wc_skip ?_
              refine go_blk ?_
              refine go_seq ?_
              refine wc_reg fun K hK => ?_
              refine x_inc rfl rfl rfl rfl (by omega) ?_
              refine x_move rfl rfl rfl ?_
              refine x_nil (hK _ ?_); clear hK K
              exact hR1 (j + 1) _ _ _ _ ⟨hlt, fun i hi => by rcases Nat.lt_succ_iff_lt_or_eq.1 hi with hi | rfl; (exact hr i hi); rw [hkb]; exact kid_T hg55 hc2⟩ (by omega) (by repeat (first | exact trivial | refine And.intro rfl ?_)) (by repeat (first | exact trivial | refine And.intro rfl ?_))
          · skip
            refine x_skip rfl rfl ?_
            refine x_skip rfl rfl ?_
            refine x_pickF rfl rfl rfl rfl ?_
            refine x_bin rfl rfl rfl rfl rfl ?_
            refine x_bin rfl rfl rfl rfl rfl ?_
            refine x_pickF rfl rfl rfl rfl ?_
            refine x_nil (hK _ ?_); clear hK K
            refine go_seq ?_
            refine xc_cond _ rfl (fun hc3 => ?_) (fun hc3 => ?_)
            · skip
              refine wc_seq ?_
              refine wc_reg fun K hK => ?_
              refine x_assign rfl rfl rfl ?_
              refine x_nil (hK _ ?_); clear hK K
              refine go_seq ?_
              refine wc_ret ?_
              refine go_blk_ret ?_
              refine go_seq_ret ?_
              refine hR2 _ _ (by simp) ?_
              refine go_blk_ret ?_
              refine go_seq_ret ?_
              exact x_end1 (Or.inr rfl) rfl rfl rfl rfl rfl rfl (by congr 2; simp only [pheadB, hgood, Bool.true_and]; exact (kidsB_no hlt (by rw [hkb]; exact kid_F hg55 hc3)).symm)
            · skip
              refine wc_skip ?_
              refine go_blk ?_
              refine go_seq ?_
              refine wc_reg fun K hK => ?_
              refine x_inc rfl rfl rfl rfl (by omega) ?_
              refine x_move rfl rfl rfl ?_
              refine x_nil (hK _ ?_); clear hK K
              exact hR1 (j + 1) _ _ _ _ ⟨hlt, fun i hi => by rcases Nat.lt_succ_iff_lt_or_eq.1 hi with hi | rfl; (exact hr i hi); rw [hkb]; exact kid_F hg55 hc3⟩ (by omega) (by repeat (first | exact trivial | refine And.intro rfl ?_)) (by repeat (first | exact trivial | refine And.intro rfl ?_))
    · skip
      refine wc_exit ?_
      refine go_seq_exit ?_
      refine hR2 _ _ (by simp) ?_
      refine go_blk_exit ?_
      refine go_seq ?_
      refine wc_seq ?_
      refine wc_reg fun K hK => ?_
      refine x_assign rfl rfl rfl ?_
      refine x_nil (hK _ ?_); clear hK K
      refine go_seq ?_
      refine wc_ret ?_
      exact x_end1 (Or.inr rfl) rfl rfl rfl rfl rfl rfl (by congr 2; simp only [pheadB, hgood, Bool.true_and]; exact (kidsB_yes fun i hi => hr i (by simp at hc1; omega)).symm)
end Go.Vm
set_option linter.unusedVariables false
namespace Go.Vm
open Go Go.Proofs
def tkK (p : Bool) : Int := if p then 5 else 6
def ctK (p : Bool) : Int := if p then 6 else 5
def fitB (L : List StateP) (s : StateP) (h : Head) : Bool :=
  pheadB L s.plus h && !(h.kind == ctK s.plus) && !(h.kind == tkK s.plus && (decide (1 < s.heads.l.length) || decide (0 < s.vars.l.length)))
def pstateB (L : List StateP) (s : StateP) : Bool :=
  s.heads.l.all (fitB L s) && (risI (s.heads.l.map (·.kind)) && (risI s.vars.l && (s.vars.l.length == 0 || decide (0 ≤ s.vars.l.getD 0 0))))
def autoB (L : List StateP) (root : Int) : Int :=
  if L.length = 0 ∨ 4096 < L.length ∨ root < 0 ∨ (L.length : Int) ≤ root then 14 else if (L[root.toNat]?.map (·.plus)).getD false = true ∧ L.all (pstateB L) = true then 0 else 14
theorem kinds_up {l : List Head} {j : Nat} {h : Head} (e : l[j]? = some h) : (l.take (j + 1)).map (·.kind) = (l.take j).map (·.kind) ++ [h.kind] := by
  have hj := (List.getElem?_eq_some_iff.1 e).1
  have he := (List.getElem?_eq_some_iff.1 e).2
  rw [List.take_succ_eq_append_getElem hj, List.map_append, he]; rfl
end Go.Vm
set_option linter.unusedVariables false
namespace Go.Vm
open Go Go.Proofs
attribute [local irreducible] wpL
set_option maxRecDepth 20000 in
theorem pstate_ok (L : Sl StateP) (root : Int) (s : StateP) (hL : L.l.length < 2 ^ 60) (hs : s.ok) : Pure En 37 [.agg ((AutoP.enc L root).map .p), .agg (s.enc.map .p)] (.p (.bool (pstateB L.l s))) := by
  have hs1 := hs.heads
  have hs2 := hs.vars
  refine pure_walk [(0, .agg ((AutoP.enc L root).map .p)), (1, .agg (s.enc.map .p))] Tryz.func37 rfl rfl rfl fun g hwo hwt => ?_
  show Wc En _ (Tryz.f37.body.getD .skip) [] (Sx 77 _ _ _ _ _ _)
  unfold Tryz.f37
  simp only [Option.getD_some]
  rw [← G.ext_nil g]
  refine wc_seq ?_
  refine wc_reg fun K hK => ?_
  refine x_box rfl rfl rfl rfl rfl ?_
  refine x_box rfl rfl rfl rfl rfl ?_
  refine x_assign rfl rfl rfl ?_
  refine x_nil (hK _ ?_); clear hK K
  refine go_seq ?_
  refine wc_seq ?_
  refine wc_reg fun K hK => ?_
  refine x_assign rfl rfl rfl ?_
  refine x_assign rfl rfl rfl ?_
  refine x_nil (hK _ ?_); clear hK K
  refine go_seq ?_
  refine wc_seq ?_
  refine wc_seq ?_
  refine wc_reg fun K hK => ?_
  refine x_fa rfl rfl rfl fld34_0 rfl ?_
  refine x_ldL rfl rfl rfl isag4 rfl rfl ?_
  refine x_not rfl rfl rfl ?_
  refine x_nil (hK _ ?_); clear hK K
  refine go_seq ?_
  refine xc_cond _ rfl (fun hc0 => ?_) (fun hc0 => ?_)
  · skip
    have hpl : s.plus = false := by simpa using hc0
    have htk : tkK s.plus = 6 := by rw [hpl]; rfl
    have hct : ctK s.plus = 5 := by rw [hpl]; rfl
    refine wc_reg fun K hK => ?_
    refine x_move rfl rfl rfl ?_
    refine x_move rfl rfl rfl ?_
    refine x_assign rfl rfl rfl ?_
    refine x_assign rfl rfl rfl ?_
    refine x_nil (hK _ ?_); clear hK K
    refine go_seq ?_
    refine wc_seq ?_
    refine wc_reg fun K hK => ?_
    refine x_assign rfl rfl rfl ?_
    refine x_nil (hK _ ?_); clear hK K
    refine go_seq ?_
    refine wc_seq ?_
    refine wc_seq ?_
    refine wc_reg fun K hK => ?_
    refine x_fa rfl rfl rfl fld34_1 rfl ?_
    refine x_ldL rfl rfl rfl isag32 rfl rfl ?_
    refine x_len rfl rfl rfl (by first | assumption | exact Rd.enc) und32 ?_
    refine x_move rfl rfl rfl ?_
    refine x_nil (hK _ ?_); clear hK K
    refine go_seq ?_
    refine wc_block ?_
    refine xc_loopG [(2, _), (3, _), (5, _), (6, _), (16, _), (17, _)] [(2, _), (3, _)] (fun j : Nat => [(7, accV eInt g.toks.length 1 ((s.heads.l.take j).map (·.kind))), (18, .p (.int .i64 j))]) (fun j : Nat => []) (fun j : Nat => g.ext [] (accT ((s.heads.l.take j).map (·.kind)))) (fun j : Nat => j ≤ s.heads.l.length ∧ ∀ i, i < j → ∃ c, s.heads.l[i]? = some c ∧ fitB L.l s c = true) (fun j : Nat => s.heads.l.length - j) 0 (by repeat (first | exact trivial | refine And.intro rfl ?_)) (by repeat (first | exact trivial | refine And.intro rfl ?_)) rfl ⟨Nat.zero_le _, fun i hi => by omega⟩ ?_
    rintro j R hR1 hR2 ⟨hj, hr⟩ b rb
    refine wc_seq ?_
    refine wc_reg fun K hK => ?_
    refine x_bin rfl rfl rfl rfl rfl ?_
    refine x_nil (hK _ ?_); clear hK K
    refine go_seq ?_
    refine wc_seq ?_
    refine xc_cond _ rfl (fun hc1 => ?_) (fun hc1 => ?_)
    · skip
      have hlt : j < s.heads.l.length := by simp at hc1; omega
      obtain ⟨h, e1⟩ : ∃ h, s.heads.l[j]? = some h := ⟨_, List.getElem?_eq_getElem hlt⟩
      have hm : h ∈ s.heads.l := List.mem_of_getElem? e1
      have hks := kinds_up e1
      refine wc_skip ?_
      refine go_seq ?_
      refine wc_seq ?_
      refine wc_block ?_
      refine wc_seq ?_
      refine wc_reg fun K hK => ?_
      refine x_ia rfl rfl rfl (by first | assumption | exact Rd.enc) rfl und32 sz37 rfl (by assumption) rfl ?_
      refine x_ldRA rfl rfl rfl isag37 sz37 rfl ?_
      refine x_alloc rfl rfl rfl zero37 rfl ?_
      refine x_stL rfl rfl rfl sz37 rfl rfl rfl rfl ?_
      refine x_nil (hK _ ?_); clear hK K
      refine go_seq ?_
      refine wc_seq ?_
      refine wc_reg fun K hK => ?_
      refine x_move rfl rfl rfl ?_
      refine x_fa rfl rfl rfl fld37_0 rfl ?_
      refine x_ldL rfl rfl rfl isag3 rfl rfl ?_
      refine x_bs rfl rfl rfl el27 sz3 zero3 rfl rfl rfl ?_
      refine x_acc rfl rfl rfl hwt rfl rfl (rd_one _) el27 und27 zero3 inf3 rfl (fun _ => rfl) (by simp; omega) ?_
      refine x_assign rfl rfl rfl ?_
      refine x_nil (hK _ ?_); clear hK K
      refine go_seq ?_
      refine wc_seq ?_
      refine wc_reg fun K hK => ?_
      refine x_ldLA rfl rfl rfl isag24 sz24 rfl rfl ?_
      refine x_ldLA rfl rfl rfl isag34 sz34 rfl rfl ?_
      refine x_ldLA rfl rfl rfl isag37 sz37 rfl rfl ?_
      refine x_call rfl rfl rfl (by repeat (first | exact ho_nil | refine ho_cons (by first | rfl | exact rd_ho (by assumption)) ?_)) okf64 (phead_ok L root s h hL (hs.each h hm) _) ?_
      refine x_not rfl rfl rfl ?_
      refine x_moveS rfl rfl rfl (fun hg32 => ?_) (fun hg32 => ?_)
      · skip
        refine x_skip rfl rfl ?_
        refine x_skip rfl rfl ?_
        refine x_skip rfl rfl ?_
        refine x_skip rfl rfl ?_
        refine x_pickT rfl rfl rfl rfl ?_
        refine x_move rfl rfl rfl ?_
        refine x_skip rfl rfl ?_
        refine x_skip rfl rfl ?_
        refine x_skip rfl rfl ?_
        refine x_skip rfl rfl ?_
        refine x_skip rfl rfl ?_
        refine x_skip rfl rfl ?_
        refine x_skip rfl rfl ?_
        refine x_skip rfl rfl ?_
        refine x_skip rfl rfl ?_
        refine x_skip rfl rfl ?_
        refine x_skip rfl rfl ?_
        refine x_skip rfl rfl ?_
        refine x_skip rfl rfl ?_
        refine x_skip rfl rfl ?_
        refine x_skip rfl rfl ?_
        refine x_skip rfl rfl ?_
        refine x_pickT rfl rfl rfl rfl ?_
        refine x_nil (hK _ ?_); clear hK K
        refine go_seq ?_
        refine xc_cond true rfl (fun _ => ?_) (fun h => by cases h)
        refine wc_seq ?_
        refine wc_reg fun K hK => ?_
        refine x_assign rfl rfl rfl ?_
        refine x_nil (hK _ ?_); clear hK K
        refine go_seq ?_
        refine wc_ret ?_
        refine go_blk_ret ?_
        refine go_seq_ret ?_
        refine hR2 _ _ (by simp) ?_
        refine go_blk_ret ?_
        refine go_seq_ret ?_
        have hf : fitB L.l s h = false := by have e : pheadB L.l s.plus h = false := (by simpa using hg32); simp only [fitB, e, Bool.false_and]
        exact x_end1 (Or.inr rfl) rfl rfl rfl rfl rfl rfl (by congr 2; simp only [pstateB, all_not (p := fitB L.l s) hm hf, Bool.false_and])
      · skip
        refine x_fa rfl rfl rfl fld37_0 rfl ?_
        refine x_ldL rfl rfl rfl isag3 rfl rfl ?_
        refine x_move rfl rfl rfl ?_
        refine x_bin rfl rfl rfl rfl rfl ?_
        refine x_pickF rfl rfl rfl rfl ?_
        refine x_moveS rfl rfl rfl (fun hg38 => ?_) (fun hg38 => ?_)
        · skip
          refine x_skip rfl rfl ?_
          refine x_skip rfl rfl ?_
          refine x_skip rfl rfl ?_
          refine x_skip rfl rfl ?_
          refine x_skip rfl rfl ?_
          refine x_skip rfl rfl ?_
          refine x_skip rfl rfl ?_
          refine x_skip rfl rfl ?_
          refine x_skip rfl rfl ?_
          refine x_skip rfl rfl ?_
          refine x_skip rfl rfl ?_
          refine x_skip rfl rfl ?_
          refine x_skip rfl rfl ?_
          refine x_skip rfl rfl ?_
          refine x_skip rfl rfl ?_
          refine x_skip rfl rfl ?_
          refine x_pickT rfl rfl rfl rfl ?_
          refine x_nil (hK _ ?_); clear hK K
          refine go_seq ?_
          refine xc_cond true rfl (fun _ => ?_) (fun h => by cases h)
          refine wc_seq ?_
          refine wc_reg fun K hK => ?_
          refine x_assign rfl rfl rfl ?_
          refine x_nil (hK _ ?_); clear hK K
          refine go_seq ?_
          refine wc_ret ?_
          refine go_blk_ret ?_
          refine go_seq_ret ?_
          refine hR2 _ _ (by simp) ?_
          refine go_blk_ret ?_
          refine go_seq_ret ?_
          have hf : fitB L.l s h = false := by simp only [fitB, hct, hg38]; simp
          exact x_end1 (Or.inr rfl) rfl rfl rfl rfl rfl rfl (by congr 2; simp only [pstateB, all_not (p := fitB L.l s) hm hf, Bool.false_and])
        · skip
          refine x_fa rfl rfl rfl fld37_0 rfl ?_
          refine x_ldL rfl rfl rfl isag3 rfl rfl ?_
          refine x_move rfl rfl rfl ?_
          refine x_bin rfl rfl rfl rfl rfl ?_
          refine x_moveS rfl rfl rfl (fun hg43 => ?_) (fun hg43 => ?_)
          · skip
            refine x_fa rfl rfl rfl fld34_1 rfl ?_
            refine x_ldL rfl rfl rfl isag32 rfl rfl ?_
            refine x_len rfl rfl rfl (by first | assumption | exact Rd.enc) und32 ?_
            refine x_bin rfl rfl rfl rfl rfl ?_
            refine x_moveS rfl rfl rfl (fun hg48 => ?_) (fun hg48 => ?_)
            · skip
              refine x_skip rfl rfl ?_
              refine x_skip rfl rfl ?_
              refine x_skip rfl rfl ?_
              refine x_skip rfl rfl ?_
              refine x_pickT rfl rfl rfl rfl ?_
              refine x_pickT rfl rfl rfl rfl ?_
              refine x_pickF rfl rfl rfl rfl ?_
              refine x_nil (hK _ ?_); clear hK K
              refine go_seq ?_
              refine xc_cond true rfl (fun _ => ?_) (fun h => by cases h)
              refine wc_seq ?_
              refine wc_reg fun K hK => ?_
              refine x_assign rfl rfl rfl ?_
              refine x_nil (hK _ ?_); clear hK K
              refine go_seq ?_
              refine wc_ret ?_
              refine go_blk_ret ?_
              refine go_seq_ret ?_
              refine hR2 _ _ (by simp) ?_
              refine go_blk_ret ?_
              refine go_seq_ret ?_
              have hf : fitB L.l s h = false := by have e : decide (1 < s.heads.l.length) = true := (by simp only [decide_eq_true_eq] at hg48 ⊢; omega); simp only [fitB, htk, hg43, e]; simp
              exact x_end1 (Or.inr rfl) rfl rfl rfl rfl rfl rfl (by congr 2; simp only [pstateB, all_not (p := fitB L.l s) hm hf, Bool.false_and])
            · skip
              refine x_fa rfl rfl rfl fld34_2 rfl ?_
              refine x_ldL rfl rfl rfl isag27 rfl rfl ?_
              refine x_len rfl rfl rfl (by first | assumption | exact Rd.enc) und27 ?_
              refine x_bin rfl rfl rfl rfl rfl ?_
              refine x_pickF rfl rfl rfl rfl ?_
              refine x_pickT rfl rfl rfl rfl ?_
              refine x_pickF rfl rfl rfl rfl ?_
              refine x_nil (hK _ ?_); clear hK K
              refine go_seq ?_
              refine xc_cond _ rfl (fun hc2 => ?_) (fun hc2 => ?_)
              · skip
                refine wc_seq ?_
                refine wc_reg fun K hK => ?_
                refine x_assign rfl rfl rfl ?_
                refine x_nil (hK _ ?_); clear hK K
                refine go_seq ?_
                refine wc_ret ?_
                refine go_blk_ret ?_
                refine go_seq_ret ?_
                refine hR2 _ _ (by simp) ?_
                refine go_blk_ret ?_
                refine go_seq_ret ?_
                have hf : fitB L.l s h = false := by have e : decide (0 < s.vars.l.length) = true := (by simp only [decide_eq_true_eq] at hc2 ⊢; omega); simp only [fitB, htk, hg43, e]; simp
                exact x_end1 (Or.inr rfl) rfl rfl rfl rfl rfl rfl (by congr 2; simp only [pstateB, all_not (p := fitB L.l s) hm hf, Bool.false_and])
              · skip
                refine wc_skip ?_
                refine go_blk ?_
                refine go_seq ?_
                refine wc_reg fun K hK => ?_
                refine x_inc rfl rfl rfl rfl (by omega) ?_
                refine x_move rfl rfl rfl ?_
                refine x_nil (hK _ ?_); clear hK K
                have hf : fitB L.l s h = true := by have a1 : pheadB L.l s.plus h = true := (by simpa using hg32); have a2 : decide (1 < s.heads.l.length) = false := (by simp only [decide_eq_false_iff_not] at hg48 ⊢; omega); have a3 : decide (0 < s.vars.l.length) = false := (by simp only [decide_eq_false_iff_not] at hc2 ⊢; omega); simp only [fitB, a1, hct, hg38, htk, hg43, a2, a3]; rfl
                exact hR1 (j + 1) _ _ _ _ _ ⟨hlt, leadP_up (p := fitB L.l s) hr e1 hf⟩ (by omega) (by repeat (first | exact trivial | refine And.intro rfl ?_ | refine And.intro (by simp only [hks]; rfl) ?_)) (by repeat (first | exact trivial | refine And.intro rfl ?_)) (by rw [hks])
          · skip
            refine x_skip rfl rfl ?_
            refine x_skip rfl rfl ?_
            refine x_skip rfl rfl ?_
            refine x_skip rfl rfl ?_
            refine x_skip rfl rfl ?_
            refine x_skip rfl rfl ?_
            refine x_skip rfl rfl ?_
            refine x_skip rfl rfl ?_
            refine x_skip rfl rfl ?_
            refine x_skip rfl rfl ?_
            refine x_pickF rfl rfl rfl rfl ?_
            refine x_pickF rfl rfl rfl rfl ?_
            refine x_nil (hK _ ?_); clear hK K
            refine go_seq ?_
            refine xc_cond false rfl (fun h => by cases h) (fun _ => ?_)
            refine wc_skip ?_
            refine go_blk ?_
            refine go_seq ?_
            refine wc_reg fun K hK => ?_
            refine x_inc rfl rfl rfl rfl (by omega) ?_
            refine x_move rfl rfl rfl ?_
            refine x_nil (hK _ ?_); clear hK K
            have hf : fitB L.l s h = true := by have a1 : pheadB L.l s.plus h = true := (by simpa using hg32); simp only [fitB, a1, hct, hg38, htk, hg43]; rfl
            exact hR1 (j + 1) _ _ _ _ _ ⟨hlt, leadP_up (p := fitB L.l s) hr e1 hf⟩ (by omega) (by repeat (first | exact trivial | refine And.intro rfl ?_ | refine And.intro (by simp only [hks]; rfl) ?_)) (by repeat (first | exact trivial | refine And.intro rfl ?_)) (by rw [hks])
    · skip
      have hall : s.heads.l.all (fitB L.l s) = true := all_lead fun i hi => hr i (by simp at hc1; omega)
      have hK : (s.heads.l.take j).map (·.kind) = s.heads.l.map (·.kind) := by rw [List.take_of_length_le (by simp at hc1; omega)]
      refine wc_exit ?_
      refine go_seq_exit ?_
      refine hR2 _ _ (by simp) ?_
      refine go_blk_exit ?_
      refine go_seq ?_
      refine wc_seq ?_
      refine wc_reg fun K hK => ?_
      have hrd : Rd eInt (accV eInt g.toks.length 1 (List.map (fun x => x.kind) (List.take j s.heads.l))) _ := Rd.acc
      refine x_move rfl rfl rfl ?_
      refine x_call rfl rfl rfl (by repeat (first | exact ho_nil | refine ho_cons (by first | rfl | exact rd_ho (by assumption)) ?_)) okf65 (risingI_ok Rd.acc (by simp; omega) _) ?_
      refine x_moveS rfl rfl rfl (fun hg59 => ?_) (fun hg59 => ?_)
      · skip
        refine x_fa rfl rfl rfl fld34_2 rfl ?_
        refine x_ldL rfl rfl rfl isag27 rfl rfl ?_
        refine x_call rfl rfl rfl (by repeat (first | exact ho_nil | refine ho_cons (by first | rfl | exact rd_ho (by assumption)) ?_)) okf65 (risingI_ok Rd.enc (by omega) _) ?_
        refine x_pickT rfl rfl rfl rfl ?_
        refine x_moveS rfl rfl rfl (fun hg64 => ?_) (fun hg64 => ?_)
        · skip
          refine x_fa rfl rfl rfl fld34_2 rfl ?_
          refine x_ldL rfl rfl rfl isag27 rfl rfl ?_
          refine x_len rfl rfl rfl (by first | assumption | exact Rd.enc) und27 ?_
          refine x_bin rfl rfl rfl rfl rfl ?_
          refine x_moveS rfl rfl rfl (fun hg69 => ?_) (fun hg69 => ?_)
          · skip
            refine x_skip rfl rfl ?_
            refine x_skip rfl rfl ?_
            refine x_skip rfl rfl ?_
            refine x_skip rfl rfl ?_
            refine x_skip rfl rfl ?_
            refine x_pickT rfl rfl rfl rfl ?_
            refine x_pickT rfl rfl rfl rfl ?_
            refine x_assign rfl rfl rfl ?_
            refine x_nil (hK _ ?_); clear hK K
            refine go_seq ?_
            refine wc_ret ?_
            exact x_end1 (Or.inr rfl) rfl rfl rfl rfl rfl rfl (by congr 2; rw [hK] at hg59; have e : (s.vars.l.length == 0) = true := (by simp only [beq_iff_eq] at hg69 ⊢; omega); simp only [pstateB, hall, hg59, hg64, e, Bool.true_and, Bool.true_or])
          · skip
            obtain ⟨v0, e0⟩ : ∃ v0, s.vars.l[(0 : Int).toNat]? = some v0 := ⟨_, List.getElem?_eq_getElem (by simp only [beq_eq_false_iff_ne, ne_eq] at hg69; show 0 < _; omega)⟩
            refine x_fa rfl rfl rfl fld34_2 rfl ?_
            refine x_ldL rfl rfl rfl isag27 rfl rfl ?_
            refine x_iaI rfl rfl rfl Rd.enc rfl und27 sz3 rfl (by omega) e0 rfl ?_
            refine x_ldR rfl rfl rfl isag3 rfl ?_
            refine x_bin rfl rfl rfl rfl rfl ?_
            refine x_pickF rfl rfl rfl rfl ?_
            refine x_pickT rfl rfl rfl rfl ?_
            refine x_assign rfl rfl rfl ?_
            refine x_nil (hK _ ?_); clear hK K
            refine go_seq ?_
            refine wc_ret ?_
            exact x_end1 (Or.inr rfl) rfl rfl rfl rfl rfl rfl (by congr 2; rw [hK] at hg59; have e : (s.vars.l.length == 0) = false := (by simp only [beq_eq_false_iff_ne, ne_eq] at hg69 ⊢; omega); have e2 : s.vars.l.getD 0 0 = v0 := (by rw [List.getD_eq_getElem?_getD]; rw [show s.vars.l[0]? = some v0 from e0]; rfl); simp only [pstateB, hall, hg59, hg64, e, e2, Bool.true_and, Bool.false_or])
        · skip
          refine x_skip rfl rfl ?_
          refine x_skip rfl rfl ?_
          refine x_skip rfl rfl ?_
          refine x_skip rfl rfl ?_
          refine x_skip rfl rfl ?_
          refine x_skip rfl rfl ?_
          refine x_skip rfl rfl ?_
          refine x_skip rfl rfl ?_
          refine x_skip rfl rfl ?_
          refine x_skip rfl rfl ?_
          refine x_skip rfl rfl ?_
          refine x_pickF rfl rfl rfl rfl ?_
          refine x_assign rfl rfl rfl ?_
          refine x_nil (hK _ ?_); clear hK K
          refine go_seq ?_
          refine wc_ret ?_
          exact x_end1 (Or.inr rfl) rfl rfl rfl rfl rfl rfl (by congr 2; rw [hK] at hg59; simp only [pstateB, hall, hg59, hg64, Bool.true_and, Bool.false_and])
      · skip
        refine x_skip rfl rfl ?_
        refine x_skip rfl rfl ?_
        refine x_skip rfl rfl ?_
        refine x_pickF rfl rfl rfl rfl ?_
        refine x_move rfl rfl rfl ?_
        refine x_skip rfl rfl ?_
        refine x_skip rfl rfl ?_
        refine x_skip rfl rfl ?_
        refine x_skip rfl rfl ?_
        refine x_skip rfl rfl ?_
        refine x_skip rfl rfl ?_
        refine x_skip rfl rfl ?_
        refine x_skip rfl rfl ?_
        refine x_skip rfl rfl ?_
        refine x_skip rfl rfl ?_
        refine x_skip rfl rfl ?_
        refine x_pickF rfl rfl rfl rfl ?_
        refine x_assign rfl rfl rfl ?_
        refine x_nil (hK _ ?_); clear hK K
        refine go_seq ?_
        refine wc_ret ?_
        exact x_end1 (Or.inr rfl) rfl rfl rfl rfl rfl rfl (by congr 2; rw [hK] at hg59; simp only [pstateB, hall, hg59, Bool.true_and, Bool.false_and])
  · skip
    have hpl : s.plus = true := by simpa using hc0
    have htk : tkK s.plus = 5 := by rw [hpl]; rfl
    have hct : ctK s.plus = 6 := by rw [hpl]; rfl
    refine wc_skip ?_
    refine go_seq ?_
    refine wc_seq ?_
    refine wc_reg fun K hK => ?_
    refine x_assign rfl rfl rfl ?_
    refine x_nil (hK _ ?_); clear hK K
    refine go_seq ?_
    refine wc_seq ?_
    refine wc_seq ?_
    refine wc_reg fun K hK => ?_
    refine x_fa rfl rfl rfl fld34_1 rfl ?_
    refine x_ldL rfl rfl rfl isag32 rfl rfl ?_
    refine x_len rfl rfl rfl (by first | assumption | exact Rd.enc) und32 ?_
    refine x_move rfl rfl rfl ?_
    refine x_nil (hK _ ?_); clear hK K
    refine go_seq ?_
    refine wc_block ?_
    refine xc_loopG [(2, _), (3, _), (5, _), (6, _), (16, _), (17, _)] [(2, _), (3, _)] (fun j : Nat => [(7, accV eInt g.toks.length 1 ((s.heads.l.take j).map (·.kind))), (18, .p (.int .i64 j))]) (fun j : Nat => []) (fun j : Nat => g.ext [] (accT ((s.heads.l.take j).map (·.kind)))) (fun j : Nat => j ≤ s.heads.l.length ∧ ∀ i, i < j → ∃ c, s.heads.l[i]? = some c ∧ fitB L.l s c = true) (fun j : Nat => s.heads.l.length - j) 0 (by repeat (first | exact trivial | refine And.intro rfl ?_)) (by repeat (first | exact trivial | refine And.intro rfl ?_)) rfl ⟨Nat.zero_le _, fun i hi => by omega⟩ ?_
    rintro j R hR1 hR2 ⟨hj, hr⟩ b rb
    refine wc_seq ?_
    refine wc_reg fun K hK => ?_
    refine x_bin rfl rfl rfl rfl rfl ?_
    refine x_nil (hK _ ?_); clear hK K
    refine go_seq ?_
    refine wc_seq ?_
    refine xc_cond _ rfl (fun hc3 => ?_) (fun hc3 => ?_)
    · skip
      have hlt : j < s.heads.l.length := by simp at hc3; omega
      obtain ⟨h, e1⟩ : ∃ h, s.heads.l[j]? = some h := ⟨_, List.getElem?_eq_getElem hlt⟩
      have hm : h ∈ s.heads.l := List.mem_of_getElem? e1
      have hks := kinds_up e1
      refine wc_skip ?_
      refine go_seq ?_
      refine wc_seq ?_
      refine wc_block ?_
      refine wc_seq ?_
      refine wc_reg fun K hK => ?_
      refine x_ia rfl rfl rfl (by first | assumption | exact Rd.enc) rfl und32 sz37 rfl (by assumption) rfl ?_
      refine x_ldRA rfl rfl rfl isag37 sz37 rfl ?_
      refine x_alloc rfl rfl rfl zero37 rfl ?_
      refine x_stL rfl rfl rfl sz37 rfl rfl rfl rfl ?_
      refine x_nil (hK _ ?_); clear hK K
      refine go_seq ?_
      refine wc_seq ?_
      refine wc_reg fun K hK => ?_
      refine x_move rfl rfl rfl ?_
      refine x_fa rfl rfl rfl fld37_0 rfl ?_
      refine x_ldL rfl rfl rfl isag3 rfl rfl ?_
      refine x_bs rfl rfl rfl el27 sz3 zero3 rfl rfl rfl ?_
      refine x_acc rfl rfl rfl hwt rfl rfl (rd_one _) el27 und27 zero3 inf3 rfl (fun _ => rfl) (by simp; omega) ?_
      refine x_assign rfl rfl rfl ?_
      refine x_nil (hK _ ?_); clear hK K
      refine go_seq ?_
      refine wc_seq ?_
      refine wc_reg fun K hK => ?_
      refine x_ldLA rfl rfl rfl isag24 sz24 rfl rfl ?_
      refine x_ldLA rfl rfl rfl isag34 sz34 rfl rfl ?_
      refine x_ldLA rfl rfl rfl isag37 sz37 rfl rfl ?_
      refine x_call rfl rfl rfl (by repeat (first | exact ho_nil | refine ho_cons (by first | rfl | exact rd_ho (by assumption)) ?_)) okf64 (phead_ok L root s h hL (hs.each h hm) _) ?_
      refine x_not rfl rfl rfl ?_
      refine x_moveS rfl rfl rfl (fun hg32 => ?_) (fun hg32 => ?_)
      · skip
        refine x_skip rfl rfl ?_
        refine x_skip rfl rfl ?_
        refine x_skip rfl rfl ?_
        refine x_skip rfl rfl ?_
        refine x_pickT rfl rfl rfl rfl ?_
        refine x_move rfl rfl rfl ?_
        refine x_skip rfl rfl ?_
        refine x_skip rfl rfl ?_
        refine x_skip rfl rfl ?_
        refine x_skip rfl rfl ?_
        refine x_skip rfl rfl ?_
        refine x_skip rfl rfl ?_
        refine x_skip rfl rfl ?_
        refine x_skip rfl rfl ?_
        refine x_skip rfl rfl ?_
        refine x_skip rfl rfl ?_
        refine x_skip rfl rfl ?_
        refine x_skip rfl rfl ?_
        refine x_skip rfl rfl ?_
        refine x_skip rfl rfl ?_
        refine x_skip rfl rfl ?_
        refine x_skip rfl rfl ?_
        refine x_pickT rfl rfl rfl rfl ?_
        refine x_nil (hK _ ?_); clear hK K
        refine go_seq ?_
        refine xc_cond true rfl (fun _ => ?_) (fun h => by cases h)
        refine wc_seq ?_
        refine wc_reg fun K hK => ?_
        refine x_assign rfl rfl rfl ?_
        refine x_nil (hK _ ?_); clear hK K
        refine go_seq ?_
        refine wc_ret ?_
        refine go_blk_ret ?_
        refine go_seq_ret ?_
        refine hR2 _ _ (by simp) ?_
        refine go_blk_ret ?_
        refine go_seq_ret ?_
        have hf : fitB L.l s h = false := by have e : pheadB L.l s.plus h = false := (by simpa using hg32); simp only [fitB, e, Bool.false_and]
        exact x_end1 (Or.inr rfl) rfl rfl rfl rfl rfl rfl (by congr 2; simp only [pstateB, all_not (p := fitB L.l s) hm hf, Bool.false_and])
      · skip
        refine x_fa rfl rfl rfl fld37_0 rfl ?_
        refine x_ldL rfl rfl rfl isag3 rfl rfl ?_
        refine x_move rfl rfl rfl ?_
        refine x_bin rfl rfl rfl rfl rfl ?_
        refine x_pickF rfl rfl rfl rfl ?_
        refine x_moveS rfl rfl rfl (fun hg38 => ?_) (fun hg38 => ?_)
        · skip
          refine x_skip rfl rfl ?_
          refine x_skip rfl rfl ?_
          refine x_skip rfl rfl ?_
          refine x_skip rfl rfl ?_
          refine x_skip rfl rfl ?_
          refine x_skip rfl rfl ?_
          refine x_skip rfl rfl ?_
          refine x_skip rfl rfl ?_
          refine x_skip rfl rfl ?_
          refine x_skip rfl rfl ?_
          refine x_skip rfl rfl ?_
          refine x_skip rfl rfl ?_
          refine x_skip rfl rfl ?_
          refine x_skip rfl rfl ?_
          refine x_skip rfl rfl ?_
          refine x_skip rfl rfl ?_
          refine x_pickT rfl rfl rfl rfl ?_
          refine x_nil (hK _ ?_); clear hK K
          refine go_seq ?_
          refine xc_cond true rfl (fun _ => ?_) (fun h => by cases h)
          refine wc_seq ?_
          refine wc_reg fun K hK => ?_
          refine x_assign rfl rfl rfl ?_
          refine x_nil (hK _ ?_); clear hK K
          refine go_seq ?_
          refine wc_ret ?_
          refine go_blk_ret ?_
          refine go_seq_ret ?_
          refine hR2 _ _ (by simp) ?_
          refine go_blk_ret ?_
          refine go_seq_ret ?_
          have hf : fitB L.l s h = false := by simp only [fitB, hct, hg38]; simp
          exact x_end1 (Or.inr rfl) rfl rfl rfl rfl rfl rfl (by congr 2; simp only [pstateB, all_not (p := fitB L.l s) hm hf, Bool.false_and])
        · skip
          refine x_fa rfl rfl rfl fld37_0 rfl ?_
          refine x_ldL rfl rfl rfl isag3 rfl rfl ?_
          refine x_move rfl rfl rfl ?_
          refine x_bin rfl rfl rfl rfl rfl ?_
          refine x_moveS rfl rfl rfl (fun hg43 => ?_) (fun hg43 => ?_)
          · skip
            refine x_fa rfl rfl rfl fld34_1 rfl ?_
            refine x_ldL rfl rfl rfl isag32 rfl rfl ?_
            refine x_len rfl rfl rfl (by first | assumption | exact Rd.enc) und32 ?_
            refine x_bin rfl rfl rfl rfl rfl ?_
            refine x_moveS rfl rfl rfl (fun hg48 => ?_) (fun hg48 => ?_)
            · skip
              refine x_skip rfl rfl ?_
              refine x_skip rfl rfl ?_
              refine x_skip rfl rfl ?_
              refine x_skip rfl rfl ?_
              refine x_pickT rfl rfl rfl rfl ?_
              refine x_pickT rfl rfl rfl rfl ?_
              refine x_pickF rfl rfl rfl rfl ?_
              refine x_nil (hK _ ?_); clear hK K
              refine go_seq ?_
              refine xc_cond true rfl (fun _ => ?_) (fun h => by cases h)
              refine wc_seq ?_
              refine wc_reg fun K hK => ?_
              refine x_assign rfl rfl rfl ?_
              refine x_nil (hK _ ?_); clear hK K
              refine go_seq ?_
              refine wc_ret ?_
              refine go_blk_ret ?_
              refine go_seq_ret ?_
              refine hR2 _ _ (by simp) ?_
              refine go_blk_ret ?_
              refine go_seq_ret ?_
              have hf : fitB L.l s h = false := by have e : decide (1 < s.heads.l.length) = true := (by simp only [decide_eq_true_eq] at hg48 ⊢; omega); simp only [fitB, htk, hg43, e]; simp
              exact x_end1 (Or.inr rfl) rfl rfl rfl rfl rfl rfl (by congr 2; simp only [pstateB, all_not (p := fitB L.l s) hm hf, Bool.false_and])
            · skip
              refine x_fa rfl rfl rfl fld34_2 rfl ?_
              refine x_ldL rfl rfl rfl isag27 rfl rfl ?_
              refine x_len rfl rfl rfl (by first | assumption | exact Rd.enc) und27 ?_
              refine x_bin rfl rfl rfl rfl rfl ?_
              refine x_pickF rfl rfl rfl rfl ?_
              refine x_pickT rfl rfl rfl rfl ?_
              refine x_pickF rfl rfl rfl rfl ?_
              refine x_nil (hK _ ?_); clear hK K
              refine go_seq ?_
              refine xc_cond _ rfl (fun hc4 => ?_) (fun hc4 => ?_)
              · skip
                refine wc_seq ?_
                refine wc_reg fun K hK => ?_
                refine x_assign rfl rfl rfl ?_
                refine x_nil (hK _ ?_); clear hK K
                refine go_seq ?_
                refine wc_ret ?_
                refine go_blk_ret ?_
                refine go_seq_ret ?_
                refine hR2 _ _ (by simp) ?_
                refine go_blk_ret ?_
                refine go_seq_ret ?_
                have hf : fitB L.l s h = false := by have e : decide (0 < s.vars.l.length) = true := (by simp only [decide_eq_true_eq] at hc4 ⊢; omega); simp only [fitB, htk, hg43, e]; simp
                exact x_end1 (Or.inr rfl) rfl rfl rfl rfl rfl rfl (by congr 2; simp only [pstateB, all_not (p := fitB L.l s) hm hf, Bool.false_and])
              · skip
                refine wc_skip ?_
                refine go_blk ?_
                refine go_seq ?_
                refine wc_reg fun K hK => ?_
                refine x_inc rfl rfl rfl rfl (by omega) ?_
                refine x_move rfl rfl rfl ?_
                refine x_nil (hK _ ?_); clear hK K
                have hf : fitB L.l s h = true := by have a1 : pheadB L.l s.plus h = true := (by simpa using hg32); have a2 : decide (1 < s.heads.l.length) = false := (by simp only [decide_eq_false_iff_not] at hg48 ⊢; omega); have a3 : decide (0 < s.vars.l.length) = false := (by simp only [decide_eq_false_iff_not] at hc4 ⊢; omega); simp only [fitB, a1, hct, hg38, htk, hg43, a2, a3]; rfl
                exact hR1 (j + 1) _ _ _ _ _ ⟨hlt, leadP_up (p := fitB L.l s) hr e1 hf⟩ (by omega) (by repeat (first | exact trivial | refine And.intro rfl ?_ | refine And.intro (by simp only [hks]; rfl) ?_)) (by repeat (first | exact trivial | refine And.intro rfl ?_)) (by rw [hks])
          · skip
            refine x_skip rfl rfl ?_
            refine x_skip rfl rfl ?_
            refine x_skip rfl rfl ?_
            refine x_skip rfl rfl ?_
            refine x_skip rfl rfl ?_
            refine x_skip rfl rfl ?_
            refine x_skip rfl rfl ?_
            refine x_skip rfl rfl ?_
            refine x_skip rfl rfl ?_
            refine x_skip rfl rfl ?_
            refine x_pickF rfl rfl rfl rfl ?_
            refine x_pickF rfl rfl rfl rfl ?_
            refine x_nil (hK _ ?_); clear hK K
            refine go_seq ?_
            refine xc_cond false rfl (fun h => by cases h) (fun _ => ?_)
            refine wc_skip ?_
            refine go_blk ?_
            refine go_seq ?_
            refine wc_reg fun K hK => ?_
            refine x_inc rfl rfl rfl rfl (by omega) ?_
            refine x_move rfl rfl rfl ?_
            refine x_nil (hK _ ?_); clear hK K
            have hf : fitB L.l s h = true := by have a1 : pheadB L.l s.plus h = true := (by simpa using hg32); simp only [fitB, a1, hct, hg38, htk, hg43]; rfl
            exact hR1 (j + 1) _ _ _ _ _ ⟨hlt, leadP_up (p := fitB L.l s) hr e1 hf⟩ (by omega) (by repeat (first | exact trivial | refine And.intro rfl ?_ | refine And.intro (by simp only [hks]; rfl) ?_)) (by repeat (first | exact trivial | refine And.intro rfl ?_)) (by rw [hks])
    · skip
      have hall : s.heads.l.all (fitB L.l s) = true := all_lead fun i hi => hr i (by simp at hc3; omega)
      have hK : (s.heads.l.take j).map (·.kind) = s.heads.l.map (·.kind) := by rw [List.take_of_length_le (by simp at hc3; omega)]
      refine wc_exit ?_
      refine go_seq_exit ?_
      refine hR2 _ _ (by simp) ?_
      refine go_blk_exit ?_
      refine go_seq ?_
      refine wc_seq ?_
      refine wc_reg fun K hK => ?_
      have hrd : Rd eInt (accV eInt g.toks.length 1 (List.map (fun x => x.kind) (List.take j s.heads.l))) _ := Rd.acc
      refine x_move rfl rfl rfl ?_
      refine x_call rfl rfl rfl (by repeat (first | exact ho_nil | refine ho_cons (by first | rfl | exact rd_ho (by assumption)) ?_)) okf65 (risingI_ok Rd.acc (by simp; omega) _) ?_
      refine x_moveS rfl rfl rfl (fun hg59 => ?_) (fun hg59 => ?_)
      · skip
        refine x_fa rfl rfl rfl fld34_2 rfl ?_
        refine x_ldL rfl rfl rfl isag27 rfl rfl ?_
        refine x_call rfl rfl rfl (by repeat (first | exact ho_nil | refine ho_cons (by first | rfl | exact rd_ho (by assumption)) ?_)) okf65 (risingI_ok Rd.enc (by omega) _) ?_
        refine x_pickT rfl rfl rfl rfl ?_
        refine x_moveS rfl rfl rfl (fun hg64 => ?_) (fun hg64 => ?_)
        · skip
          refine x_fa rfl rfl rfl fld34_2 rfl ?_
          refine x_ldL rfl rfl rfl isag27 rfl rfl ?_
          refine x_len rfl rfl rfl (by first | assumption | exact Rd.enc) und27 ?_
          refine x_bin rfl rfl rfl rfl rfl ?_
          refine x_moveS rfl rfl rfl (fun hg69 => ?_) (fun hg69 => ?_)
          · skip
            refine x_skip rfl rfl ?_
            refine x_skip rfl rfl ?_
            refine x_skip rfl rfl ?_
            refine x_skip rfl rfl ?_
            refine x_skip rfl rfl ?_
            refine x_pickT rfl rfl rfl rfl ?_
            refine x_pickT rfl rfl rfl rfl ?_
            refine x_assign rfl rfl rfl ?_
            refine x_nil (hK _ ?_); clear hK K
            refine go_seq ?_
            refine wc_ret ?_
            exact x_end1 (Or.inr rfl) rfl rfl rfl rfl rfl rfl (by congr 2; rw [hK] at hg59; have e : (s.vars.l.length == 0) = true := (by simp only [beq_iff_eq] at hg69 ⊢; omega); simp only [pstateB, hall, hg59, hg64, e, Bool.true_and, Bool.true_or])
          · skip
            obtain ⟨v0, e0⟩ : ∃ v0, s.vars.l[(0 : Int).toNat]? = some v0 := ⟨_, List.getElem?_eq_getElem (by simp only [beq_eq_false_iff_ne, ne_eq] at hg69; show 0 < _; omega)⟩
            refine x_fa rfl rfl rfl fld34_2 rfl ?_
            refine x_ldL rfl rfl rfl isag27 rfl rfl ?_
            refine x_iaI rfl rfl rfl Rd.enc rfl und27 sz3 rfl (by omega) e0 rfl ?_
            refine x_ldR rfl rfl rfl isag3 rfl ?_
            refine x_bin rfl rfl rfl rfl rfl ?_
            refine x_pickF rfl rfl rfl rfl ?_
            refine x_pickT rfl rfl rfl rfl ?_
            refine x_assign rfl rfl rfl ?_
            refine x_nil (hK _ ?_); clear hK K
            refine go_seq ?_
            refine wc_ret ?_
            exact x_end1 (Or.inr rfl) rfl rfl rfl rfl rfl rfl (by congr 2; rw [hK] at hg59; have e : (s.vars.l.length == 0) = false := (by simp only [beq_eq_false_iff_ne, ne_eq] at hg69 ⊢; omega); have e2 : s.vars.l.getD 0 0 = v0 := (by rw [List.getD_eq_getElem?_getD]; rw [show s.vars.l[0]? = some v0 from e0]; rfl); simp only [pstateB, hall, hg59, hg64, e, e2, Bool.true_and, Bool.false_or])
        · skip
          refine x_skip rfl rfl ?_
          refine x_skip rfl rfl ?_
          refine x_skip rfl rfl ?_
          refine x_skip rfl rfl ?_
          refine x_skip rfl rfl ?_
          refine x_skip rfl rfl ?_
          refine x_skip rfl rfl ?_
          refine x_skip rfl rfl ?_
          refine x_skip rfl rfl ?_
          refine x_skip rfl rfl ?_
          refine x_skip rfl rfl ?_
          refine x_pickF rfl rfl rfl rfl ?_
          refine x_assign rfl rfl rfl ?_
          refine x_nil (hK _ ?_); clear hK K
          refine go_seq ?_
          refine wc_ret ?_
          exact x_end1 (Or.inr rfl) rfl rfl rfl rfl rfl rfl (by congr 2; rw [hK] at hg59; simp only [pstateB, hall, hg59, hg64, Bool.true_and, Bool.false_and])
      · skip
        refine x_skip rfl rfl ?_
        refine x_skip rfl rfl ?_
        refine x_skip rfl rfl ?_
        refine x_pickF rfl rfl rfl rfl ?_
        refine x_move rfl rfl rfl ?_
        refine x_skip rfl rfl ?_
        refine x_skip rfl rfl ?_
        refine x_skip rfl rfl ?_
        refine x_skip rfl rfl ?_
        refine x_skip rfl rfl ?_
        refine x_skip rfl rfl ?_
        refine x_skip rfl rfl ?_
        refine x_skip rfl rfl ?_
        refine x_skip rfl rfl ?_
        refine x_skip rfl rfl ?_
        refine x_skip rfl rfl ?_
        refine x_pickF rfl rfl rfl rfl ?_
        refine x_assign rfl rfl rfl ?_
        refine x_nil (hK _ ?_); clear hK K
        refine go_seq ?_
        refine wc_ret ?_
        exact x_end1 (Or.inr rfl) rfl rfl rfl rfl rfl rfl (by congr 2; rw [hK] at hg59; simp only [pstateB, hall, hg59, Bool.true_and, Bool.false_and])
end Go.Vm
set_option linter.unusedVariables false
namespace Go.Vm
open Go Go.Proofs
attribute [local irreducible] wpL
set_option maxRecDepth 20000 in
theorem auto_ok (L : Sl StateP) (root : Int) (hL : L.l.length < 2 ^ 60) (hs : ∀ s, s ∈ L.l → s.ok) : Pure En 13 [.agg ((AutoP.enc L root).map .p)] (.p (.int .i64 (autoB L.l root))) := by
  refine pure_walk [(0, .agg ((AutoP.enc L root).map .p))] Tryz.func13 rfl rfl rfl fun g hwo hwt => ?_
  show Wc En _ (Tryz.f13.body.getD .skip) [] (Sx 50 _ _ _ _ _ _)
  unfold Tryz.f13
  simp only [Option.getD_some]
  refine wc_seq ?_
  refine wc_reg fun K hK => ?_
  refine x_box rfl rfl rfl rfl rfl ?_
  refine x_assign rfl rfl rfl ?_
  refine x_nil (hK _ ?_); clear hK K
  refine go_seq ?_
  refine wc_seq ?_
  refine wc_seq ?_
  refine wc_reg fun K hK => ?_
  refine x_fa rfl rfl rfl fld24_0 rfl ?_
  refine x_ldL rfl rfl rfl isag22 rfl rfl ?_
  refine x_len rfl rfl rfl (by first | assumption | exact Rd.enc) und22 ?_
  refine x_bin rfl rfl rfl rfl rfl ?_
  refine x_moveS rfl rfl rfl (fun hg9 => ?_) (fun hg9 => ?_)
  · skip
    have hz : L.l.length = 0 := by simp only [beq_iff_eq] at hg9; omega
    refine x_skip rfl rfl ?_
    refine x_skip rfl rfl ?_
    refine x_skip rfl rfl ?_
    refine x_skip rfl rfl ?_
    refine x_pickT rfl rfl rfl rfl ?_
    refine x_move rfl rfl rfl ?_
    refine x_skip rfl rfl ?_
    refine x_skip rfl rfl ?_
    refine x_skip rfl rfl ?_
    refine x_pickT rfl rfl rfl rfl ?_
    refine x_move rfl rfl rfl ?_
    refine x_skip rfl rfl ?_
    refine x_skip rfl rfl ?_
    refine x_skip rfl rfl ?_
    refine x_skip rfl rfl ?_
    refine x_skip rfl rfl ?_
    refine x_skip rfl rfl ?_
    refine x_pickT rfl rfl rfl rfl ?_
    refine x_move rfl rfl rfl ?_
    refine x_skip rfl rfl ?_
    refine x_skip rfl rfl ?_
    refine x_skip rfl rfl ?_
    refine x_skip rfl rfl ?_
    refine x_skip rfl rfl ?_
    refine x_skip rfl rfl ?_
    refine x_skip rfl rfl ?_
    refine x_skip rfl rfl ?_
    refine x_pickT rfl rfl rfl rfl ?_
    refine x_nil (hK _ ?_); clear hK K
    refine go_seq ?_
    refine xc_cond true rfl (fun _ => ?_) (fun h => by cases h)
    refine wc_seq ?_
    refine wc_reg fun K hK => ?_
    refine x_assign rfl rfl rfl ?_
    refine x_nil (hK _ ?_); clear hK K
    refine go_seq ?_
    refine wc_ret ?_
    refine go_seq_ret ?_
    exact x_end1 (Or.inr rfl) rfl rfl rfl rfl rfl rfl (ieq (by unfold autoB; rw [if_pos (by omega)]))
  · skip
    have hz : ¬ L.l.length = 0 := by simp only [beq_eq_false_iff_ne, ne_eq] at hg9; omega
    refine x_fa rfl rfl rfl fld24_0 rfl ?_
    refine x_ldL rfl rfl rfl isag22 rfl rfl ?_
    refine x_len rfl rfl rfl (by first | assumption | exact Rd.enc) und22 ?_
    refine x_bin rfl rfl rfl rfl rfl ?_
    refine x_pickF rfl rfl rfl rfl ?_
    refine x_moveS rfl rfl rfl (fun hg15 => ?_) (fun hg15 => ?_)
    · skip
      refine x_skip rfl rfl ?_
      refine x_skip rfl rfl ?_
      refine x_skip rfl rfl ?_
      refine x_pickT rfl rfl rfl rfl ?_
      refine x_move rfl rfl rfl ?_
      refine x_skip rfl rfl ?_
      refine x_skip rfl rfl ?_
      refine x_skip rfl rfl ?_
      refine x_skip rfl rfl ?_
      refine x_skip rfl rfl ?_
      refine x_skip rfl rfl ?_
      refine x_pickT rfl rfl rfl rfl ?_
      refine x_move rfl rfl rfl ?_
      refine x_skip rfl rfl ?_
      refine x_skip rfl rfl ?_
      refine x_skip rfl rfl ?_
      refine x_skip rfl rfl ?_
      refine x_skip rfl rfl ?_
      refine x_skip rfl rfl ?_
      refine x_skip rfl rfl ?_
      refine x_skip rfl rfl ?_
      refine x_pickT rfl rfl rfl rfl ?_
      refine x_nil (hK _ ?_); clear hK K
      refine go_seq ?_
      refine xc_cond true rfl (fun _ => ?_) (fun h => by cases h)
      refine wc_seq ?_
      refine wc_reg fun K hK => ?_
      refine x_assign rfl rfl rfl ?_
      refine x_nil (hK _ ?_); clear hK K
      refine go_seq ?_
      refine wc_ret ?_
      refine go_seq_ret ?_
      exact x_end1 (Or.inr rfl) rfl rfl rfl rfl rfl rfl (ieq (by unfold autoB; rw [if_pos (by simp at hg15; omega)]))
    · skip
      refine x_fa rfl rfl rfl fld24_1 rfl ?_
      refine x_ldL rfl rfl rfl isag3 rfl rfl ?_
      refine x_bin rfl rfl rfl rfl rfl ?_
      refine x_pickF rfl rfl rfl rfl ?_
      refine x_moveS rfl rfl rfl (fun hg20 => ?_) (fun hg20 => ?_)
      · skip
        refine x_skip rfl rfl ?_
        refine x_skip rfl rfl ?_
        refine x_skip rfl rfl ?_
        refine x_skip rfl rfl ?_
        refine x_skip rfl rfl ?_
        refine x_skip rfl rfl ?_
        refine x_pickT rfl rfl rfl rfl ?_
        refine x_move rfl rfl rfl ?_
        refine x_skip rfl rfl ?_
        refine x_skip rfl rfl ?_
        refine x_skip rfl rfl ?_
        refine x_skip rfl rfl ?_
        refine x_skip rfl rfl ?_
        refine x_skip rfl rfl ?_
        refine x_skip rfl rfl ?_
        refine x_skip rfl rfl ?_
        refine x_pickT rfl rfl rfl rfl ?_
        refine x_nil (hK _ ?_); clear hK K
        refine go_seq ?_
        refine xc_cond true rfl (fun _ => ?_) (fun h => by cases h)
        refine wc_seq ?_
        refine wc_reg fun K hK => ?_
        refine x_assign rfl rfl rfl ?_
        refine x_nil (hK _ ?_); clear hK K
        refine go_seq ?_
        refine wc_ret ?_
        refine go_seq_ret ?_
        exact x_end1 (Or.inr rfl) rfl rfl rfl rfl rfl rfl (ieq (by unfold autoB; rw [if_pos (by simp at hg20; omega)]))
      · skip
        refine x_fa rfl rfl rfl fld24_1 rfl ?_
        refine x_ldL rfl rfl rfl isag3 rfl rfl ?_
        refine x_fa rfl rfl rfl fld24_0 rfl ?_
        refine x_ldL rfl rfl rfl isag22 rfl rfl ?_
        refine x_len rfl rfl rfl (by first | assumption | exact Rd.enc) und22 ?_
        refine x_bin rfl rfl rfl rfl rfl ?_
        refine x_pickF rfl rfl rfl rfl ?_
        refine x_moveS rfl rfl rfl (fun hg28 => ?_) (fun hg28 => ?_)
        · skip
          refine x_skip rfl rfl ?_
          refine x_skip rfl rfl ?_
          refine x_skip rfl rfl ?_
          refine x_skip rfl rfl ?_
          refine x_skip rfl rfl ?_
          refine x_skip rfl rfl ?_
          refine x_skip rfl rfl ?_
          refine x_skip rfl rfl ?_
          refine x_pickT rfl rfl rfl rfl ?_
          refine x_nil (hK _ ?_); clear hK K
          refine go_seq ?_
          refine xc_cond true rfl (fun _ => ?_) (fun h => by cases h)
          refine wc_seq ?_
          refine wc_reg fun K hK => ?_
          refine x_assign rfl rfl rfl ?_
          refine x_nil (hK _ ?_); clear hK K
          refine go_seq ?_
          refine wc_ret ?_
          refine go_seq_ret ?_
          exact x_end1 (Or.inr rfl) rfl rfl rfl rfl rfl rfl (ieq (by unfold autoB; rw [if_pos (by simp at hg28; omega)]))
        · skip
          have hbig : ¬(L.l.length = 0 ∨ 4096 < L.l.length ∨ root < 0 ∨ (L.l.length : Int) ≤ root) := by simp at hg15 hg20 hg28; omega
          have h0 : 0 ≤ root := by omega
          have h2 : root.toNat < L.l.length := by omega
          obtain ⟨st, e2⟩ : ∃ st, L.l[root.toNat]? = some st := ⟨_, List.getElem?_eq_getElem h2⟩
          refine x_fa rfl rfl rfl fld24_0 rfl ?_
          refine x_ldL rfl rfl rfl isag22 rfl rfl ?_
          refine x_fa rfl rfl rfl fld24_1 rfl ?_
          refine x_ldL rfl rfl rfl isag3 rfl rfl ?_
          refine x_iaI rfl rfl rfl Rd.enc rfl und22 sz34 rfl h0 e2 rfl ?_
          refine x_fa rfl rfl rfl fld34_0 rfl ?_
          refine x_ldR rfl rfl rfl isag4 rfl ?_
          refine x_not rfl rfl rfl ?_
          refine x_pickF rfl rfl rfl rfl ?_
          refine x_nil (hK _ ?_); clear hK K
          refine go_seq ?_
          refine xc_cond _ rfl (fun hc0 => ?_) (fun hc0 => ?_)
          · skip
            refine wc_seq ?_
            refine wc_reg fun K hK => ?_
            refine x_assign rfl rfl rfl ?_
            refine x_nil (hK _ ?_); clear hK K
            refine go_seq ?_
            refine wc_ret ?_
            refine go_seq_ret ?_
            exact x_end1 (Or.inr rfl) rfl rfl rfl rfl rfl rfl (ieq (by unfold autoB; rw [if_neg hbig, if_neg (by rw [e2]; intro hh; have := hh.1; simp at this hc0; simp [hc0] at this)]))
          · skip
            have hpl : (L.l[root.toNat]?.map (·.plus)).getD false = true := by rw [e2]; simpa using hc0
            refine wc_skip ?_
            refine go_seq ?_
            refine wc_seq ?_
            refine wc_seq ?_
            refine wc_reg fun K hK => ?_
            refine x_fa rfl rfl rfl fld24_0 rfl ?_
            refine x_ldL rfl rfl rfl isag22 rfl rfl ?_
            refine x_len rfl rfl rfl (by first | assumption | exact Rd.enc) und22 ?_
            refine x_move rfl rfl rfl ?_
            refine x_nil (hK _ ?_); clear hK K
            refine go_seq ?_
            refine wc_block ?_
            refine xc_loop [(1, _), (39, _), (40, _)] [(1, _)] (fun j : Nat => [(41, .p (.int .i64 j))]) (fun j : Nat => j ≤ L.l.length ∧ ∀ i, i < j → ∃ c, L.l[i]? = some c ∧ pstateB L.l c = true) (fun j : Nat => L.l.length - j) 0 (by repeat (first | exact trivial | refine And.intro rfl ?_)) (by repeat (first | exact trivial | refine And.intro rfl ?_)) ⟨Nat.zero_le _, fun i hi => by omega⟩ ?_
            rintro j R hR1 hR2 ⟨hj, hr⟩ b rb
            refine wc_seq ?_
            refine wc_reg fun K hK => ?_
            refine x_bin rfl rfl rfl rfl rfl ?_
            refine x_nil (hK _ ?_); clear hK K
            refine go_seq ?_
            refine wc_seq ?_
            refine xc_cond _ rfl (fun hc1 => ?_) (fun hc1 => ?_)
            · skip
              have hlt : j < L.l.length := by simp at hc1; omega
              obtain ⟨s, e1⟩ : ∃ s, L.l[j]? = some s := ⟨_, List.getElem?_eq_getElem hlt⟩
              have hm : s ∈ L.l := List.mem_of_getElem? e1
              refine wc_skip ?_
              refine go_seq ?_
              refine wc_seq ?_
              refine wc_block ?_
              refine wc_seq ?_
              refine wc_reg fun K hK => ?_
              refine x_ia rfl rfl rfl (by first | assumption | exact Rd.enc) rfl und22 sz34 rfl (by assumption) rfl ?_
              refine x_ldRA rfl rfl rfl isag34 sz34 rfl ?_
              refine x_alloc rfl rfl rfl zero34 rfl ?_
              refine x_stL rfl rfl rfl sz34 rfl rfl rfl rfl ?_
              refine x_nil (hK _ ?_); clear hK K
              refine go_seq ?_
              refine wc_seq ?_
              refine wc_reg fun K hK => ?_
              refine x_ldLA rfl rfl rfl isag24 sz24 rfl rfl ?_
              refine x_ldLA rfl rfl rfl isag34 sz34 rfl rfl ?_
              refine x_call rfl rfl rfl (by repeat (first | exact ho_nil | refine ho_cons (by first | rfl | exact rd_ho (by assumption)) ?_)) okf37 (pstate_ok L root s hL (hs _ hm) _) ?_
              refine x_not rfl rfl rfl ?_
              refine x_nil (hK _ ?_); clear hK K
              refine go_seq ?_
              refine xc_cond _ rfl (fun hc2 => ?_) (fun hc2 => ?_)
              · skip
                refine wc_seq ?_
                refine wc_reg fun K hK => ?_
                refine x_assign rfl rfl rfl ?_
                refine x_nil (hK _ ?_); clear hK K
                refine go_seq ?_
                refine wc_ret ?_
                refine go_blk_ret ?_
                refine go_seq_ret ?_
                refine hR2 _ _ (by simp) ?_
                refine go_blk_ret ?_
                refine go_seq_ret ?_
                exact x_end1 (Or.inr rfl) rfl rfl rfl rfl rfl rfl (ieq (by unfold autoB; have : L.l.all (pstateB L.l) = false := all_not hm (by simpa using hc2); rw [if_neg hbig, if_neg (by rw [this]; simp)]))
              · skip
                refine wc_skip ?_
                refine go_blk ?_
                refine go_seq ?_
                refine wc_reg fun K hK => ?_
                refine x_inc rfl rfl rfl rfl (by omega) ?_
                refine x_move rfl rfl rfl ?_
                refine x_nil (hK _ ?_); clear hK K
                exact hR1 (j + 1) _ _ _ _ ⟨hlt, leadP_up (p := pstateB L.l) hr e1 (by simpa using hc2)⟩ (by omega) (by repeat (first | exact trivial | refine And.intro rfl ?_)) (by repeat (first | exact trivial | refine And.intro rfl ?_))
            · skip
              refine wc_exit ?_
              refine go_seq_exit ?_
              refine hR2 _ _ (by simp) ?_
              refine go_blk_exit ?_
              refine go_seq ?_
              refine wc_seq ?_
              refine wc_reg fun K hK => ?_
              refine x_assign rfl rfl rfl ?_
              refine x_nil (hK _ ?_); clear hK K
              refine go_seq ?_
              refine wc_ret ?_
              exact x_end1 (Or.inr rfl) rfl rfl rfl rfl rfl rfl (ieq (by unfold autoB; have : L.l.all (pstateB L.l) = true := all_lead fun i hi => hr i (by simp at hc1; omega); rw [if_neg hbig, if_pos ⟨hpl, this⟩]))
end Go.Vm
set_option linter.unusedVariables false
namespace Go.Vm
open Go Go.Proofs
structure Head.ok0 (h : Head) : Prop where
  names : h.names.l.length < 2 ^ 60
  each : ∀ s, s ∈ h.names.l → s.size < 2 ^ 60
  kids : h.kids.l.length < 2 ^ 60
structure StateP.ok0 (s : StateP) : Prop where
  heads : s.heads.l.length < 2 ^ 60
  vars : s.vars.l.length < 2 ^ 60
  each : ∀ h, h ∈ s.heads.l → h.ok0
def fewH (h : Head) : Bool := decide (h.kids.l.length ≤ 20) && (decide (h.names.l.length ≤ 20) && h.names.l.all fun s => decide (s.size ≤ 60))
def fewG (l : List Head) : Bool := l.all fewH && decide (l.length ≤ 25)
def fewS (s : StateP) : Bool := decide (s.heads.l.length ≤ 12) && (decide (s.vars.l.length ≤ 20) && fewG s.heads.l)
def fewA (L : List StateP) : Bool := L.all fewS && decide (L.length ≤ 25)
end Go.Vm
