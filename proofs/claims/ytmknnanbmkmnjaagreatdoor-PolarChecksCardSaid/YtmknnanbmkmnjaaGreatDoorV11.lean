/- Part 11 of the texts that the claim leans on: a judgement on the program over plain values, its soundness, and contracts of functions. -/
import Derived.Test.YtmknnanbmkmnjaaGreatDoorV10
set_option linter.unusedVariables false
namespace Go.Vm
open Go Go.Proofs
attribute [local irreducible] wpL
set_option maxRecDepth 20000 in
theorem once_ok {v : V} {a : List ByteArray} (hv : Rd eStr v a) (ha : a.length < 2 ^ 60) : Pure En 147 [v] (.p (.bool (decide a.Nodup))) := by
  refine pure_walk [(0, v)] Tryz.func147 rfl rfl rfl fun g hwo hwt => ?_
  show Wc En _ (Tryz.f147.body.getD .skip) [] (Sx 19 _ _ _ _ _ _)
  unfold Tryz.f147
  simp only [Option.getD_some]
  rw [← G.ext_nil g]
  refine wc_seq ?_
  refine wc_reg fun K hK => ?_
  refine x_assign rfl rfl rfl ?_
  refine x_nil (hK _ ?_); clear hK K
  refine go_seq ?_
  refine wc_seq ?_
  refine wc_reg fun K hK => ?_
  refine x_mkmap rfl rfl ?_
  refine x_assign rfl rfl rfl ?_
  refine x_nil (hK _ ?_); clear hK K
  refine go_seq ?_
  refine wc_seq ?_
  refine wc_seq ?_
  refine wc_reg fun K hK => ?_
  refine x_move rfl rfl rfl ?_
  refine x_len rfl rfl rfl (by first | assumption | exact Rd.enc) und35 ?_
  refine x_move rfl rfl rfl ?_
  refine x_nil (hK _ ?_); clear hK K
  refine go_seq ?_
  refine wc_block ?_
  refine xc_loopG [(3, _), (7, _), (8, _)] [] (fun j : Nat => [(9, .p (.int .i64 j))]) (fun j : Nat => []) (fun j : Nat => g.ext [.map (esS (a.take j)) j] []) (fun j : Nat => j ≤ a.length ∧ (a.take j).Nodup) (fun j : Nat => a.length - j) 0 (by repeat (first | exact trivial | refine And.intro rfl ?_)) (by repeat (first | exact trivial | refine And.intro rfl ?_)) rfl ⟨Nat.zero_le _, by simp⟩ ?_
  rintro j R hR1 hR2 ⟨hj, hr⟩ b rb
  refine wc_seq ?_
  refine wc_reg fun K hK => ?_
  refine x_bin rfl rfl rfl rfl rfl ?_
  refine x_nil (hK _ ?_); clear hK K
  refine go_seq ?_
  refine wc_seq ?_
  refine xc_cond _ rfl (fun hc0 => ?_) (fun hc0 => ?_)
  · skip
    have hlt : j < a.length := by simp at hc0; omega
    have e1 : a[j]? = some a[j] := by simp
    refine wc_skip ?_
    refine go_seq ?_
    refine wc_seq ?_
    refine wc_block ?_
    refine wc_seq ?_
    refine wc_reg fun K hK => ?_
    refine x_ia rfl rfl rfl (by first | assumption | exact Rd.enc) rfl und35 sz9 rfl (by assumption) rfl ?_
    refine x_ldR rfl rfl rfl isag9 rfl ?_
    refine x_assign rfl rfl rfl ?_
    refine x_nil (hK _ ?_); clear hK K
    refine go_seq ?_
    refine wc_seq ?_
    refine wc_seq ?_
    refine wc_reg fun K hK => ?_
    refine x_move rfl rfl rfl ?_
    refine x_move rfl rfl rfl ?_
    refine x_lookup rfl rfl rfl rfl rfl und231 und9 zv4 rfl (esS_ok _) (findS _ _) ?_
    refine x_nil (hK _ ?_); clear hK K
    refine go_seq ?_
    refine xc_cond _ rfl (fun hc1 => ?_) (fun hc1 => ?_)
    · skip
      refine wc_seq ?_
      refine wc_reg fun K hK => ?_
      refine x_assign rfl rfl rfl ?_
      refine x_nil (hK _ ?_); clear hK K
      refine go_seq ?_
      refine wc_ret ?_
      refine go_seq_ret ?_
      refine go_blk_ret ?_
      refine go_seq_ret ?_
      refine hR2 _ _ (by simp) ?_
      refine go_blk_ret ?_
      refine go_seq_ret ?_
      exact x_end1 (Or.inr rfl) rfl rfl rfl rfl rfl rfl (by rw [nodup_not hlt hc1])
    · skip
      refine wc_skip ?_
      refine go_seq ?_
      refine wc_reg fun K hK => ?_
      refine x_move rfl rfl rfl ?_
      refine x_move rfl rfl rfl ?_
      refine x_mapnew (Or.inl rfl) rfl hwo rfl rfl rfl rfl und231 und9 rfl (esS_ok _) rfl (findS_no hc1) ?_
      refine x_nil (hK _ ?_); clear hK K
      refine go_blk ?_
      refine go_seq ?_
      refine wc_reg fun K hK => ?_
      refine x_inc rfl rfl rfl rfl (by omega) ?_
      refine x_move rfl rfl rfl ?_
      refine x_nil (hK _ ?_); clear hK K
      exact hR1 (j + 1) _ _ _ _ _ ⟨hlt, nodup_take hlt hr hc1⟩ (by omega) (by repeat (first | exact trivial | refine And.intro rfl ?_)) (by repeat (first | exact trivial | refine And.intro rfl ?_)) (by rw [esS_take hlt]; rfl)
  · skip
    refine wc_exit ?_
    refine go_seq_exit ?_
    refine hR2 _ _ (by simp) ?_
    refine go_blk_exit ?_
    refine go_seq ?_
    refine wc_seq ?_
    refine wc_reg fun K hK => ?_
    refine x_assign rfl rfl rfl ?_
    refine x_nil (hK _ ?_); clear hK K
    refine go_seq ?_
    refine wc_ret ?_
    have : a.take j = a := List.take_of_length_le (by simp at hc0; omega)
    exact x_end1 (Or.inr rfl) rfl rfl rfl rfl rfl rfl (by rw [this] at hr; simp [hr])
set_option maxRecDepth 20000 in
theorem indexFuncS_ok {g0 : G} {v : V} {a : List ByteArray} (hv : Rd eStr v a) (ha : a.length < 2 ^ 60) {fid : FuncId} {caps : List V} {p : ByteArray → Bool} (hok : okFn En fid = true) (hc : ∀ g, g.objs = g0.objs → g.toks = g0.toks → ∀ s, s ∈ a → CallsAt En g fid ([.p (.str s)] ++ caps) (.p (.bool (p s))) g) : CallsAt En g0 185 [v, .fn (.func fid) caps] (.p (.int .i64 (idxP p a))) g0 := by
  refine at_walk [(0, v), (1, .fn (.func fid) caps)] Tryz.func185 rfl rfl rfl fun g hgo hgt hwo hwt => ?_
  show Wc En _ (Tryz.f185.body.getD .skip) [] (Sx 19 _ _ _ _ _ _)
  unfold Tryz.f185
  simp only [Option.getD_some]
  refine wc_seq ?_
  refine wc_reg fun K hK => ?_
  refine x_assign rfl rfl rfl ?_
  refine x_nil (hK _ ?_); clear hK K
  refine go_seq ?_
  refine wc_seq ?_
  refine wc_seq ?_
  refine wc_reg fun K hK => ?_
  refine x_move rfl rfl rfl ?_
  refine x_len rfl rfl rfl (by first | assumption | exact Rd.enc) und35 ?_
  refine x_move rfl rfl rfl ?_
  refine x_nil (hK _ ?_); clear hK K
  refine go_seq ?_
  refine wc_block ?_
  refine xc_loop [(0, _), (1, _), (7, _)] [] (fun j : Nat => [(8, .p (.int .i64 j))]) (fun j : Nat => j ≤ a.length ∧ ∀ i, i < j → ∃ c, a[i]? = some c ∧ (!p c) = true) (fun j : Nat => a.length - j) 0 (by repeat (first | exact trivial | refine And.intro rfl ?_)) (by repeat (first | exact trivial | refine And.intro rfl ?_)) ⟨Nat.zero_le _, fun i hi => by omega⟩ ?_
  rintro j R hR1 hR2 ⟨hj, hr⟩ b rb
  refine wc_seq ?_
  refine wc_reg fun K hK => ?_
  refine x_bin rfl rfl rfl rfl rfl ?_
  refine x_nil (hK _ ?_); clear hK K
  refine go_seq ?_
  refine wc_seq ?_
  refine xc_cond _ rfl (fun hc0 => ?_) (fun hc0 => ?_)
  · skip
    have hlt : j < a.length := by simp at hc0; omega
    have e1 : a[j]? = some a[j] := by simp
    refine wc_skip ?_
    refine go_seq ?_
    refine wc_seq ?_
    refine wc_block ?_
    refine wc_seq ?_
    refine wc_reg fun K hK => ?_
    refine x_move rfl rfl rfl ?_
    refine x_assign rfl rfl rfl ?_
    refine x_nil (hK _ ?_); clear hK K
    refine go_seq ?_
    refine wc_seq ?_
    refine wc_reg fun K hK => ?_
    refine x_move rfl rfl rfl ?_
    refine x_move rfl rfl rfl ?_
    refine x_move rfl rfl rfl ?_
    refine x_ia rfl rfl rfl (by first | assumption | exact Rd.enc) rfl und35 sz9 rfl (by assumption) rfl ?_
    refine x_ldR rfl rfl rfl isag9 rfl ?_
    refine x_callD rfl rfl rfl rfl (by repeat (first | exact ho_nil | refine ho_cons (by first | rfl | exact rd_ho (by assumption)) ?_)) hok (hc g hgo hgt _ (List.getElem_mem hlt)) ?_
    refine x_nil (hK _ ?_); clear hK K
    refine go_seq ?_
    refine xc_cond _ rfl (fun hc1 => ?_) (fun hc1 => ?_)
    · skip
      refine wc_seq ?_
      refine wc_reg fun K hK => ?_
      refine x_move rfl rfl rfl ?_
      refine x_assign rfl rfl rfl ?_
      refine x_nil (hK _ ?_); clear hK K
      refine go_seq ?_
      refine wc_ret ?_
      refine go_blk_ret ?_
      refine go_seq_ret ?_
      refine hR2 _ _ (by simp) ?_
      refine go_blk_ret ?_
      refine go_seq_ret ?_
      exact x_end1 (Or.inr rfl) rfl rfl rfl rfl rfl rfl (ieq (idxP_at hr e1 hc1).symm)
    · skip
      refine wc_skip ?_
      refine go_blk ?_
      refine go_seq ?_
      refine wc_reg fun K hK => ?_
      refine x_inc rfl rfl rfl rfl (by omega) ?_
      refine x_move rfl rfl rfl ?_
      refine x_nil (hK _ ?_); clear hK K
      exact hR1 (j + 1) _ _ _ _ ⟨hlt, leadP_up hr e1 (by rw [hc1]; rfl)⟩ (by omega) (by repeat (first | exact trivial | refine And.intro rfl ?_)) (by repeat (first | exact trivial | refine And.intro rfl ?_))
  · skip
    refine wc_exit ?_
    refine go_seq_exit ?_
    refine hR2 _ _ (by simp) ?_
    refine go_blk_exit ?_
    refine go_seq ?_
    refine wc_seq ?_
    refine wc_reg fun K hK => ?_
    refine x_assign rfl rfl rfl ?_
    refine x_nil (hK _ ?_); clear hK K
    refine go_seq ?_
    refine wc_ret ?_
    exact x_end1 (Or.inr rfl) rfl rfl rfl rfl rfl rfl (ieq (idxP_no (fun i hi => hr i (by simp at hc0; omega))).symm)
set_option maxRecDepth 20000 in
theorem containsFuncS_ok {g0 : G} {v : V} {a : List ByteArray} (hv : Rd eStr v a) (ha : a.length < 2 ^ 60) {fid : FuncId} {caps : List V} {p : ByteArray → Bool} (hok : okFn En fid = true) (hc : ∀ g, g.objs = g0.objs → g.toks = g0.toks → ∀ s, s ∈ a → CallsAt En g fid ([.p (.str s)] ++ caps) (.p (.bool (p s))) g) : CallsAt En g0 177 [v, .fn (.func fid) caps] (.p (.bool (a.any p))) g0 := by
  refine at_walk [(0, v), (1, .fn (.func fid) caps)] Tryz.func177 rfl rfl rfl fun g hgo hgt hwo hwt => ?_
  show Wc En _ (Tryz.f177.body.getD .skip) [] (Sx 9 _ _ _ _ _ _)
  unfold Tryz.f177
  simp only [Option.getD_some]
  refine wc_seq ?_
  refine wc_reg fun K hK => ?_
  refine x_assign rfl rfl rfl ?_
  refine x_nil (hK _ ?_); clear hK K
  refine go_seq ?_
  refine wc_seq ?_
  refine wc_reg fun K hK => ?_
  refine x_move rfl rfl rfl ?_
  refine x_move rfl rfl rfl ?_
  refine x_call rfl rfl rfl (by repeat (first | exact ho_nil | refine ho_cons (by first | rfl | exact rd_ho (by assumption)) ?_)) okf185 (indexFuncS_ok hv ha hok (fun g2 h1 h2 => hc g2 (h1.trans hgo) (h2.trans hgt))) ?_
  refine x_bin rfl rfl rfl rfl rfl ?_
  refine x_assign rfl rfl rfl ?_
  refine x_nil (hK _ ?_); clear hK K
  refine go_seq ?_
  refine wc_ret ?_
  exact x_end1 (Or.inr rfl) rfl rfl rfl rfl rfl rfl (veq (by rw [← idxP_ge]))
set_option maxRecDepth 20000 in
theorem all1_ok {g0 : G} {id : Nat} {fid : FuncId} {s : ByteArray} {b : Bool} (ho : g0.objs[id]? = some (.cells [.fn (.func fid) []])) (hok : okFn En fid = true) (hp : Pure En fid [.p (.str s)] (.p (.bool b))) : CallsAt En g0 178 [.p (.str s), .ptr id 0] (.p (.bool (!b))) g0 := by
  refine at_walk [(0, .p (.str s)), (1, .ptr id 0)] Tryz.func178 rfl rfl rfl fun g hgo hgt hwo hwt => ?_
  show Wc En _ (Tryz.f178.body.getD .skip) [] (Sx 8 _ _ _ _ _ _)
  unfold Tryz.f178
  simp only [Option.getD_some]
  refine wc_seq ?_
  refine wc_reg fun K hK => ?_
  refine x_assign rfl rfl rfl ?_
  refine x_nil (hK _ ?_); clear hK K
  refine go_seq ?_
  refine wc_seq ?_
  refine wc_reg fun K hK => ?_
  refine x_ldO rfl rfl rfl isag75 (by rw [hgo]; exact ho) rfl ?_
  refine x_move rfl rfl rfl ?_
  refine x_callD rfl rfl rfl rfl (by repeat (first | exact ho_nil | refine ho_cons (by first | rfl | exact rd_ho (by assumption)) ?_)) hok (hp _) ?_
  refine x_not rfl rfl rfl ?_
  refine x_assign rfl rfl rfl ?_
  refine x_nil (hK _ ?_); clear hK K
  refine go_seq ?_
  refine wc_ret ?_
  exact x_end1 (Or.inr rfl) rfl rfl rfl rfl rfl rfl rfl
set_option maxRecDepth 20000 in
theorem all_ok {v : V} {a : List ByteArray} (hv : Rd eStr v a) (ha : a.length < 2 ^ 60) {fid : FuncId} {p : ByteArray → Bool} (hok : okFn En fid = true) (hp : ∀ s, s ∈ a → Pure En fid [.p (.str s)] (.p (.bool (p s)))) : Pure En 148 [v, .fn (.func fid) []] (.p (.bool (a.all p))) := by
  refine pure_walk [(0, v), (1, .fn (.func fid) [])] Tryz.func148 rfl rfl rfl fun g hwo hwt => ?_
  show Wc En _ (Tryz.f148.body.getD .skip) [] (Sx 9 _ _ _ _ _ _)
  unfold Tryz.f148
  simp only [Option.getD_some]
  rw [← G.ext_nil g]
  refine wc_seq ?_
  refine wc_reg fun K hK => ?_
  refine x_boxE rfl rfl rfl rfl rfl ?_
  refine x_assign rfl rfl rfl ?_
  refine x_nil (hK _ ?_); clear hK K
  refine go_seq ?_
  refine wc_seq ?_
  refine wc_reg fun K hK => ?_
  refine x_move rfl rfl rfl ?_
  refine x_mkfn rfl rfl rfl rfl ?_
  refine x_call rfl rfl rfl (by repeat (first | exact ho_nil | refine ho_cons (by first | rfl | exact rd_ho (by assumption)) ?_)) okf177 (containsFuncS_ok hv ha okf178 (fun g2 h1 h2 s hs => all1_ok (by rw [h1]; exact ext_obj) hok (hp s hs))) ?_
  refine x_not rfl rfl rfl ?_
  refine x_assign rfl rfl rfl ?_
  refine x_nil (hK _ ?_); clear hK K
  refine go_seq ?_
  refine wc_ret ?_
  exact x_end1 (Or.inr rfl) rfl rfl rfl rfl rfl rfl (veq (by rw [List.any_eq_not_all_not]; simp))
end Go.Vm
namespace Go.Vm
open Go
structure TNode where
  kind : Int
  pos : Int
  name : ByteArray
  names : Sl ByteArray
  kids : Sl Int
  op : Bool
def TNode.enc (n : TNode) : List PV := [.int .i64 n.kind, .int .i64 n.pos, .str n.name, n.names.enc eStr, n.kids.enc eInt, .bool n.op]
structure TNode.ok (n : TNode) : Prop where
  names : n.names.l.length < 2 ^ 60
  kids : n.kids.l.length < 2 ^ 60
  each : ∀ s, s ∈ n.names.l → s.size < 2 ^ 60
def emptyB (s : ByteArray) : Bool := s.toList == (ByteArray.mk #[]).toList
def TNode.typB (n : TNode) : Bool :=
  !(n.op && !(n.kind == 9)) &&
  (if n.kind = 7 then emptyB n.name && ((n.names.l.length : Int) == 0) && ((n.kids.l.length : Int) == 2)
   else if n.kind = 8 then emptyB n.name && ((n.names.l.length : Int) == n.kids.l.length) && decide n.names.l.Nodup && n.names.l.all isNameB
   else if n.kind = 9 then emptyB n.name && ((n.names.l.length : Int) == n.kids.l.length) && decide n.names.l.Nodup && n.names.l.all tagB
   else decide (n.kind ≥ 0) && decide (n.kind ≤ 6) && emptyB n.name && ((n.names.l.length : Int) + (n.kids.l.length : Int) == 0))
structure Head where
  kind : Int
  names : Sl ByteArray
  kids : Sl Int
  op : Bool
def Head.enc (h : Head) : List PV := [.int .i64 h.kind, h.names.enc eStr, h.kids.enc eInt, .bool h.op]
end Go.Vm
set_option linter.unusedVariables false
namespace Go.Vm
open Go Go.Proofs
attribute [local irreducible] wpL
set_option maxRecDepth 20000 in
theorem typ_ok (n : TNode) (hn : n.ok) (h10 : n.kind ≠ 10) : Pure En 124 [.agg (n.enc.map .p)] (.p (.bool n.typB)) := by
  have hk1 := hn.names
  have hk2 := hn.kids
  refine pure_walk [(0, .agg (n.enc.map .p))] Tryz.func124 rfl rfl rfl fun g hwo hwt => ?_
  show Wc En _ (Tryz.f124.body.getD .skip) [] (Sx 115 _ _ _ _ _ _)
  unfold Tryz.f124
  simp only [Option.getD_some]
  refine wc_seq ?_
  refine wc_reg fun K hK => ?_
  refine x_box rfl rfl rfl rfl rfl ?_
  refine x_assign rfl rfl rfl ?_
  refine x_nil (hK _ ?_); clear hK K
  refine go_seq ?_
  refine wc_seq ?_
  refine wc_seq ?_
  refine xc_regCut [(1, _)] [(1, _)] [(9, .p (.bool (n.op && !(n.kind == 9))))] (by repeat (first | exact trivial | refine And.intro rfl ?_)) (by repeat (first | exact trivial | refine And.intro rfl ?_)) (fun K hK => ?_) ?_
  · skip
    refine x_fa rfl rfl rfl fld150_5 rfl ?_
    refine x_ldL rfl rfl rfl isag4 rfl rfl ?_
    refine x_moveS rfl rfl rfl (fun hg5 => ?_) (fun hg5 => ?_)
    · skip
      refine x_fa rfl rfl rfl fld150_0 rfl ?_
      refine x_ldL rfl rfl rfl isag3 rfl rfl ?_
      refine x_bin rfl rfl rfl rfl rfl ?_
      refine x_pickT rfl rfl rfl rfl ?_
      exact x_nil (hK _ _ _ _ (by repeat (first | exact trivial | refine And.intro rfl ?_ | refine And.intro (by rw [hg5]; rfl) ?_)) (by repeat (first | exact trivial | refine And.intro rfl ?_)))
    · skip
      refine x_skip rfl rfl ?_
      refine x_skip rfl rfl ?_
      refine x_skip rfl rfl ?_
      refine x_pickF rfl rfl rfl rfl ?_
      exact x_nil (hK _ _ _ _ (by repeat (first | exact trivial | refine And.intro rfl ?_ | refine And.intro (by rw [hg5]; rfl) ?_)) (by repeat (first | exact trivial | refine And.intro rfl ?_)))
  intro b rb
  refine go_seq ?_
  refine xc_cond _ rfl (fun hc0 => ?_) (fun hc0 => ?_)
  · skip
    refine wc_seq ?_
    refine wc_reg fun K hK => ?_
    refine x_assign rfl rfl rfl ?_
    refine x_nil (hK _ ?_); clear hK K
    refine go_seq ?_
    refine wc_ret ?_
    refine go_seq_ret ?_
    exact x_end1 (Or.inr rfl) rfl rfl rfl rfl rfl rfl (by simp_all [TNode.typB, emptyB] <;> omega)
  · skip
    refine wc_skip ?_
    refine go_seq ?_
    refine wc_seq ?_
    refine wc_seq ?_
    refine wc_reg fun K hK => ?_
    refine x_fa rfl rfl rfl fld150_0 rfl ?_
    refine x_ldL rfl rfl rfl isag3 rfl rfl ?_
    refine x_nil (hK _ ?_); clear hK K
    refine go_seq ?_
    refine wc_block ?_
    refine wc_seq ?_
    refine wc_reg fun K hK => ?_
    refine x_bin rfl rfl rfl rfl rfl ?_
    refine x_assign rfl rfl rfl ?_
    refine x_nil (hK _ ?_); clear hK K
    refine go_seq ?_
    refine xc_cond _ rfl (fun hc1 => ?_) (fun hc1 => ?_)
    · skip
      refine wc_seq ?_
      refine wc_reg fun K hK => ?_
      refine x_fa rfl rfl rfl fld150_2 rfl ?_
      refine x_ldL rfl rfl rfl isag9 rfl rfl ?_
      refine x_bin rfl rfl rfl rfl rfl ?_
      refine x_moveS rfl rfl rfl (fun hg17 => ?_) (fun hg17 => ?_)
      · skip
        refine x_fa rfl rfl rfl fld150_3 rfl ?_
        refine x_ldL rfl rfl rfl isag35 rfl rfl ?_
        refine x_len rfl rfl rfl (by first | assumption | exact Rd.enc) und35 ?_
        refine x_bin rfl rfl rfl rfl rfl ?_
        refine x_pickT rfl rfl rfl rfl ?_
        refine x_moveS rfl rfl rfl (fun hg23 => ?_) (fun hg23 => ?_)
        · skip
          refine x_fa rfl rfl rfl fld150_4 rfl ?_
          refine x_ldL rfl rfl rfl isag27 rfl rfl ?_
          refine x_len rfl rfl rfl (by first | assumption | exact Rd.enc) und27 ?_
          refine x_bin rfl rfl rfl rfl rfl ?_
          refine x_pickT rfl rfl rfl rfl ?_
          refine x_assign rfl rfl rfl ?_
          refine x_nil (hK _ ?_); clear hK K
          refine go_seq ?_
          refine wc_ret ?_
          refine go_blk_ret ?_
          refine go_seq_ret ?_
          exact x_end1 (Or.inr rfl) rfl rfl rfl rfl rfl rfl (by simp_all [TNode.typB, emptyB] <;> omega)
        · skip
          refine x_skip rfl rfl ?_
          refine x_skip rfl rfl ?_
          refine x_skip rfl rfl ?_
          refine x_skip rfl rfl ?_
          refine x_pickF rfl rfl rfl rfl ?_
          refine x_assign rfl rfl rfl ?_
          refine x_nil (hK _ ?_); clear hK K
          refine go_seq ?_
          refine wc_ret ?_
          refine go_blk_ret ?_
          refine go_seq_ret ?_
          exact x_end1 (Or.inr rfl) rfl rfl rfl rfl rfl rfl (by simp_all [TNode.typB, emptyB] <;> omega)
      · skip
        refine x_skip rfl rfl ?_
        refine x_skip rfl rfl ?_
        refine x_skip rfl rfl ?_
        refine x_skip rfl rfl ?_
        refine x_pickF rfl rfl rfl rfl ?_
        refine x_move rfl rfl rfl ?_
        refine x_skip rfl rfl ?_
        refine x_skip rfl rfl ?_
        refine x_skip rfl rfl ?_
        refine x_skip rfl rfl ?_
        refine x_pickF rfl rfl rfl rfl ?_
        refine x_assign rfl rfl rfl ?_
        refine x_nil (hK _ ?_); clear hK K
        refine go_seq ?_
        refine wc_ret ?_
        refine go_blk_ret ?_
        refine go_seq_ret ?_
        exact x_end1 (Or.inr rfl) rfl rfl rfl rfl rfl rfl (by simp_all [TNode.typB, emptyB] <;> omega)
    · skip
      refine wc_seq ?_
      refine wc_reg fun K hK => ?_
      refine x_bin rfl rfl rfl rfl rfl ?_
      refine x_assign rfl rfl rfl ?_
      refine x_nil (hK _ ?_); clear hK K
      refine go_seq ?_
      refine xc_cond _ rfl (fun hc2 => ?_) (fun hc2 => ?_)
      · skip
        refine wc_seq ?_
        refine wc_reg fun K hK => ?_
        refine x_fa rfl rfl rfl fld150_2 rfl ?_
        refine x_ldL rfl rfl rfl isag9 rfl rfl ?_
        refine x_bin rfl rfl rfl rfl rfl ?_
        refine x_moveS rfl rfl rfl (fun hg34 => ?_) (fun hg34 => ?_)
        · skip
          refine x_fa rfl rfl rfl fld150_3 rfl ?_
          refine x_ldL rfl rfl rfl isag35 rfl rfl ?_
          refine x_len rfl rfl rfl (by first | assumption | exact Rd.enc) und35 ?_
          refine x_fa rfl rfl rfl fld150_4 rfl ?_
          refine x_ldL rfl rfl rfl isag27 rfl rfl ?_
          refine x_len rfl rfl rfl (by first | assumption | exact Rd.enc) und27 ?_
          refine x_bin rfl rfl rfl rfl rfl ?_
          refine x_pickT rfl rfl rfl rfl ?_
          refine x_moveS rfl rfl rfl (fun hg43 => ?_) (fun hg43 => ?_)
          · skip
            refine x_fa rfl rfl rfl fld150_3 rfl ?_
            refine x_ldL rfl rfl rfl isag35 rfl rfl ?_
            refine x_call rfl rfl rfl (by repeat (first | exact ho_nil | refine ho_cons (by first | rfl | exact rd_ho (by assumption)) ?_)) okf147 (once_ok Rd.enc hk1 _) ?_
            refine x_pickT rfl rfl rfl rfl ?_
            refine x_moveS rfl rfl rfl (fun hg48 => ?_) (fun hg48 => ?_)
            · skip
              refine x_fa rfl rfl rfl fld150_3 rfl ?_
              refine x_ldL rfl rfl rfl isag35 rfl rfl ?_
              refine x_call rfl rfl rfl (by repeat (first | exact ho_nil | refine ho_cons (by first | rfl | exact rd_ho (by assumption)) ?_)) okf148 (all_ok Rd.enc hk1 okf145 (fun s hs => isName_ok s (hn.each s hs)) _) ?_
              refine x_pickT rfl rfl rfl rfl ?_
              refine x_assign rfl rfl rfl ?_
              refine x_nil (hK _ ?_); clear hK K
              refine go_seq ?_
              refine wc_ret ?_
              refine go_blk_ret ?_
              refine go_seq_ret ?_
              exact x_end1 (Or.inr rfl) rfl rfl rfl rfl rfl rfl (by simp_all [TNode.typB, emptyB] <;> omega)
            · skip
              refine x_skip rfl rfl ?_
              refine x_skip rfl rfl ?_
              refine x_skip rfl rfl ?_
              refine x_pickF rfl rfl rfl rfl ?_
              refine x_assign rfl rfl rfl ?_
              refine x_nil (hK _ ?_); clear hK K
              refine go_seq ?_
              refine wc_ret ?_
              refine go_blk_ret ?_
              refine go_seq_ret ?_
              exact x_end1 (Or.inr rfl) rfl rfl rfl rfl rfl rfl (by simp_all [TNode.typB, emptyB] <;> omega)
          · skip
            refine x_skip rfl rfl ?_
            refine x_skip rfl rfl ?_
            refine x_skip rfl rfl ?_
            refine x_pickF rfl rfl rfl rfl ?_
            refine x_move rfl rfl rfl ?_
            refine x_skip rfl rfl ?_
            refine x_skip rfl rfl ?_
            refine x_skip rfl rfl ?_
            refine x_pickF rfl rfl rfl rfl ?_
            refine x_assign rfl rfl rfl ?_
            refine x_nil (hK _ ?_); clear hK K
            refine go_seq ?_
            refine wc_ret ?_
            refine go_blk_ret ?_
            refine go_seq_ret ?_
            exact x_end1 (Or.inr rfl) rfl rfl rfl rfl rfl rfl (by simp_all [TNode.typB, emptyB] <;> omega)
        · skip
          refine x_skip rfl rfl ?_
          refine x_skip rfl rfl ?_
          refine x_skip rfl rfl ?_
          refine x_skip rfl rfl ?_
          refine x_skip rfl rfl ?_
          refine x_skip rfl rfl ?_
          refine x_skip rfl rfl ?_
          refine x_pickF rfl rfl rfl rfl ?_
          refine x_move rfl rfl rfl ?_
          refine x_skip rfl rfl ?_
          refine x_skip rfl rfl ?_
          refine x_skip rfl rfl ?_
          refine x_pickF rfl rfl rfl rfl ?_
          refine x_move rfl rfl rfl ?_
          refine x_skip rfl rfl ?_
          refine x_skip rfl rfl ?_
          refine x_skip rfl rfl ?_
          refine x_pickF rfl rfl rfl rfl ?_
          refine x_assign rfl rfl rfl ?_
          refine x_nil (hK _ ?_); clear hK K
          refine go_seq ?_
          refine wc_ret ?_
          refine go_blk_ret ?_
          refine go_seq_ret ?_
          exact x_end1 (Or.inr rfl) rfl rfl rfl rfl rfl rfl (by simp_all [TNode.typB, emptyB] <;> omega)
      · skip
        refine wc_seq ?_
        refine wc_reg fun K hK => ?_
        refine x_bin rfl rfl rfl rfl rfl ?_
        refine x_assign rfl rfl rfl ?_
        refine x_nil (hK _ ?_); clear hK K
        refine go_seq ?_
        refine xc_cond _ rfl (fun hc3 => ?_) (fun hc3 => ?_)
        · skip
          refine wc_seq ?_
          refine wc_reg fun K hK => ?_
          refine x_fa rfl rfl rfl fld150_2 rfl ?_
          refine x_ldL rfl rfl rfl isag9 rfl rfl ?_
          refine x_bin rfl rfl rfl rfl rfl ?_
          refine x_moveS rfl rfl rfl (fun hg58 => ?_) (fun hg58 => ?_)
          · skip
            refine x_fa rfl rfl rfl fld150_3 rfl ?_
            refine x_ldL rfl rfl rfl isag35 rfl rfl ?_
            refine x_len rfl rfl rfl (by first | assumption | exact Rd.enc) und35 ?_
            refine x_fa rfl rfl rfl fld150_4 rfl ?_
            refine x_ldL rfl rfl rfl isag27 rfl rfl ?_
            refine x_len rfl rfl rfl (by first | assumption | exact Rd.enc) und27 ?_
            refine x_bin rfl rfl rfl rfl rfl ?_
            refine x_pickT rfl rfl rfl rfl ?_
            refine x_moveS rfl rfl rfl (fun hg67 => ?_) (fun hg67 => ?_)
            · skip
              refine x_fa rfl rfl rfl fld150_3 rfl ?_
              refine x_ldL rfl rfl rfl isag35 rfl rfl ?_
              refine x_call rfl rfl rfl (by repeat (first | exact ho_nil | refine ho_cons (by first | rfl | exact rd_ho (by assumption)) ?_)) okf147 (once_ok Rd.enc hk1 _) ?_
              refine x_pickT rfl rfl rfl rfl ?_
              refine x_moveS rfl rfl rfl (fun hg72 => ?_) (fun hg72 => ?_)
              · skip
                refine x_fa rfl rfl rfl fld150_3 rfl ?_
                refine x_ldL rfl rfl rfl isag35 rfl rfl ?_
                refine x_call rfl rfl rfl (by repeat (first | exact ho_nil | refine ho_cons (by first | rfl | exact rd_ho (by assumption)) ?_)) okf148 (all_ok Rd.enc hk1 okf149 (fun s hs => tag_ok s (hn.each s hs)) _) ?_
                refine x_pickT rfl rfl rfl rfl ?_
                refine x_assign rfl rfl rfl ?_
                refine x_nil (hK _ ?_); clear hK K
                refine go_seq ?_
                refine wc_ret ?_
                refine go_blk_ret ?_
                refine go_seq_ret ?_
                exact x_end1 (Or.inr rfl) rfl rfl rfl rfl rfl rfl (by simp_all [TNode.typB, emptyB] <;> omega)
              · skip
                refine x_skip rfl rfl ?_
                refine x_skip rfl rfl ?_
                refine x_skip rfl rfl ?_
                refine x_pickF rfl rfl rfl rfl ?_
                refine x_assign rfl rfl rfl ?_
                refine x_nil (hK _ ?_); clear hK K
                refine go_seq ?_
                refine wc_ret ?_
                refine go_blk_ret ?_
                refine go_seq_ret ?_
                exact x_end1 (Or.inr rfl) rfl rfl rfl rfl rfl rfl (by simp_all [TNode.typB, emptyB] <;> omega)
            · skip
              refine x_skip rfl rfl ?_
              refine x_skip rfl rfl ?_
              refine x_skip rfl rfl ?_
              refine x_pickF rfl rfl rfl rfl ?_
              refine x_move rfl rfl rfl ?_
              refine x_skip rfl rfl ?_
              refine x_skip rfl rfl ?_
              refine x_skip rfl rfl ?_
              refine x_pickF rfl rfl rfl rfl ?_
              refine x_assign rfl rfl rfl ?_
              refine x_nil (hK _ ?_); clear hK K
              refine go_seq ?_
              refine wc_ret ?_
              refine go_blk_ret ?_
              refine go_seq_ret ?_
              exact x_end1 (Or.inr rfl) rfl rfl rfl rfl rfl rfl (by simp_all [TNode.typB, emptyB] <;> omega)
          · skip
            refine x_skip rfl rfl ?_
            refine x_skip rfl rfl ?_
            refine x_skip rfl rfl ?_
            refine x_skip rfl rfl ?_
            refine x_skip rfl rfl ?_
            refine x_skip rfl rfl ?_
            refine x_skip rfl rfl ?_
            refine x_pickF rfl rfl rfl rfl ?_
            refine x_move rfl rfl rfl ?_
            refine x_skip rfl rfl ?_
            refine x_skip rfl rfl ?_
            refine x_skip rfl rfl ?_
            refine x_pickF rfl rfl rfl rfl ?_
            refine x_move rfl rfl rfl ?_
            refine x_skip rfl rfl ?_
            refine x_skip rfl rfl ?_
            refine x_skip rfl rfl ?_
            refine x_pickF rfl rfl rfl rfl ?_
            refine x_assign rfl rfl rfl ?_
            refine x_nil (hK _ ?_); clear hK K
            refine go_seq ?_
            refine wc_ret ?_
            refine go_blk_ret ?_
            refine go_seq_ret ?_
            exact x_end1 (Or.inr rfl) rfl rfl rfl rfl rfl rfl (by simp_all [TNode.typB, emptyB] <;> omega)
        · skip
          refine wc_seq ?_
          refine wc_reg fun K hK => ?_
          refine x_bin rfl rfl rfl rfl rfl ?_
          refine x_assign rfl rfl rfl ?_
          refine x_nil (hK _ ?_); clear hK K
          refine go_seq ?_
          refine xc_cond _ rfl (fun hc4 => ?_) (fun hc4 => ?_)
          · skip
            exact absurd (by simpa using hc4) h10
          · skip
            refine wc_skip ?_
            refine go_blk ?_
            refine go_seq ?_
            refine wc_seq ?_
            refine wc_reg fun K hK => ?_
            refine x_fa rfl rfl rfl fld150_0 rfl ?_
            refine x_ldL rfl rfl rfl isag3 rfl rfl ?_
            refine x_bin rfl rfl rfl rfl rfl ?_
            refine x_moveS rfl rfl rfl (fun hg95 => ?_) (fun hg95 => ?_)
            · skip
              refine x_fa rfl rfl rfl fld150_0 rfl ?_
              refine x_ldL rfl rfl rfl isag3 rfl rfl ?_
              refine x_bin rfl rfl rfl rfl rfl ?_
              refine x_pickT rfl rfl rfl rfl ?_
              refine x_moveS rfl rfl rfl (fun hg100 => ?_) (fun hg100 => ?_)
              · skip
                refine x_fa rfl rfl rfl fld150_2 rfl ?_
                refine x_ldL rfl rfl rfl isag9 rfl rfl ?_
                refine x_bin rfl rfl rfl rfl rfl ?_
                refine x_pickT rfl rfl rfl rfl ?_
                refine x_moveS rfl rfl rfl (fun hg105 => ?_) (fun hg105 => ?_)
                · skip
                  refine x_fa rfl rfl rfl fld150_3 rfl ?_
                  refine x_ldL rfl rfl rfl isag35 rfl rfl ?_
                  refine x_len rfl rfl rfl (by first | assumption | exact Rd.enc) und35 ?_
                  refine x_fa rfl rfl rfl fld150_4 rfl ?_
                  refine x_ldL rfl rfl rfl isag27 rfl rfl ?_
                  refine x_len rfl rfl rfl (by first | assumption | exact Rd.enc) und27 ?_
                  refine x_add rfl rfl rfl rfl (by omega) (by omega) ?_
                  refine x_bin rfl rfl rfl rfl rfl ?_
                  refine x_pickT rfl rfl rfl rfl ?_
                  refine x_assign rfl rfl rfl ?_
                  refine x_nil (hK _ ?_); clear hK K
                  refine go_seq ?_
                  refine wc_ret ?_
                  exact x_end1 (Or.inr rfl) rfl rfl rfl rfl rfl rfl (by simp_all [TNode.typB, emptyB] <;> omega)
                · skip
                  refine x_skip rfl rfl ?_
                  refine x_skip rfl rfl ?_
                  refine x_skip rfl rfl ?_
                  refine x_skip rfl rfl ?_
                  refine x_skip rfl rfl ?_
                  refine x_skip rfl rfl ?_
                  refine x_skip rfl rfl ?_
                  refine x_skip rfl rfl ?_
                  refine x_pickF rfl rfl rfl rfl ?_
                  refine x_assign rfl rfl rfl ?_
                  refine x_nil (hK _ ?_); clear hK K
                  refine go_seq ?_
                  refine wc_ret ?_
                  exact x_end1 (Or.inr rfl) rfl rfl rfl rfl rfl rfl (by simp_all [TNode.typB, emptyB] <;> omega)
              · skip
                refine x_skip rfl rfl ?_
                refine x_skip rfl rfl ?_
                refine x_skip rfl rfl ?_
                refine x_pickF rfl rfl rfl rfl ?_
                refine x_move rfl rfl rfl ?_
                refine x_skip rfl rfl ?_
                refine x_skip rfl rfl ?_
                refine x_skip rfl rfl ?_
                refine x_skip rfl rfl ?_
                refine x_skip rfl rfl ?_
                refine x_skip rfl rfl ?_
                refine x_skip rfl rfl ?_
                refine x_skip rfl rfl ?_
                refine x_pickF rfl rfl rfl rfl ?_
                refine x_assign rfl rfl rfl ?_
                refine x_nil (hK _ ?_); clear hK K
                refine go_seq ?_
                refine wc_ret ?_
                exact x_end1 (Or.inr rfl) rfl rfl rfl rfl rfl rfl (by simp_all [TNode.typB, emptyB] <;> omega)
            · skip
              refine x_skip rfl rfl ?_
              refine x_skip rfl rfl ?_
              refine x_skip rfl rfl ?_
              refine x_pickF rfl rfl rfl rfl ?_
              refine x_move rfl rfl rfl ?_
              refine x_skip rfl rfl ?_
              refine x_skip rfl rfl ?_
              refine x_skip rfl rfl ?_
              refine x_pickF rfl rfl rfl rfl ?_
              refine x_move rfl rfl rfl ?_
              refine x_skip rfl rfl ?_
              refine x_skip rfl rfl ?_
              refine x_skip rfl rfl ?_
              refine x_skip rfl rfl ?_
              refine x_skip rfl rfl ?_
              refine x_skip rfl rfl ?_
              refine x_skip rfl rfl ?_
              refine x_skip rfl rfl ?_
              refine x_pickF rfl rfl rfl rfl ?_
              refine x_assign rfl rfl rfl ?_
              refine x_nil (hK _ ?_); clear hK K
              refine go_seq ?_
              refine wc_ret ?_
              exact x_end1 (Or.inr rfl) rfl rfl rfl rfl rfl rfl (by simp_all [TNode.typB, emptyB] <;> omega)
end Go.Vm
set_option linter.unusedVariables false
namespace Go.Vm
open Go
def G.upd (g : G) (id : Nat) (o : Ob) : G := { g with objs := g.objs.set id o }
theorem ext_upd {g : G} {os : List Ob} {ts : List Nat} {i : Nat} {o : Ob} : (g.ext os ts).upd (g.objs.length + i) o = g.ext (os.set i o) ts := by
  simp only [G.ext, G.upd]
  congr 1
  rw [List.set_append_right _ _ (by omega)]; simp
def G.at' (g : G) (id : Nat) (o : Ob) (w : Nat) : G := ⟨g.objs.set id o, g.toks, w, g.toks.length⟩
section
variable {E : Env} {qt : Bool} {ops : Array Oper} {l : List Oper} {K : St → Prop}
variable {nt : Nat} {b : Nat → V} {L : List (Nat × V)} {rb : Nat → Option (Nat × List V)} {R : List (Nat × (Nat × List V))} {esc : Nat → Bool} {g : G} {os : List Ob} {ts : List Nat}
variable {d : Nat} {ty : TypeId} {pos : String} {after : Array Edge} {gd : Option (Nat × Bool)} {op : Op}
theorem x_stO {t : TypeId} {x y : Operand} {id off : Nat} {cs : List V} {v : V} (h : wX ops nt L gd = some true) (hx : evX E L x = some (.ptr id off)) (hy : evX E L y = some v) (hz : sz E t = some 1) (hc : cellsOf v = [v]) (h1 : one v = true)
    (ho : g.objs[id]? = some (.cells cs)) (hlt : off < cs.length) (k : wpL E qt ops l (Sx nt b L rb R esc (g.setObj id (.cells (cs.set off v)))) K) :
    wpL E qt ops (⟨none, .store t x y, ty, pos, after, gd⟩ :: l) (Sx nt b L rb R esc g) K := by
  refine x_op0 (v := .undef) h rfl ?_ k
  have hg : (Sx nt b L rb R esc g).g.objs[id]? = some (.cells cs) := ho
  simp only [stepV, evS hx, evS hy, hz, hc, List.length_singleton, if_true, St.storeCells, List.all_cons, h1, List.all_nil, Bool.and_true, hg, put?_one hlt, Option.map_some]
  rfl
theorem x_callM {fn : FuncId} {args : Array Operand} {ats : Array TypeId} {vs : List V} {r : V} {g2 : G} (h : wX ops nt L gd = some true) (hd : Nat.blt d nt = true) (ha : evXs E L args.toList = some vs) (ho : (vs.flatMap cellsOf).all one = true) (hf : okFn E fn = true) (hp : CallsAt E g fn vs r g2)
    (k : wpL E false ops l (Sx nt b ((d, r) :: L) rb R esc g2) K) : wpL E false ops (⟨some d, .call { callee := .value (.func fn), args := args, argTypes := ats }, ty, pos, after, gd⟩ :: l) (Sx nt b L rb R esc g) K := by
  exact wpl_callM (wX_ok h) (blt hd) (evXs_ok ha) ho hf hp (fun e => by cases e) (by rw [ofL_upd]; exact k)
end
section
variable {E : Env}
theorem keep_walk {f : FuncId} {fn : Func} {body : Code} {args : List V} {r : V} {g0 g2 : G} (L : List (Nat × V)) (hf : E.P.funcs[f]? = some fn) (hb : fn.body = some body) (ha : Nat.ble args.length fn.ntmps = true)
    (hL : L = (List.range args.length).map fun i => (i, args.getD i .undef))
    (h : ∀ g, g = { g0 with wo := g0.objs.length, wt := g0.toks.length } → Wc E (fun e s' => (e = .normal ∨ e = .ret) ∧ ∃ vs, resOf E s' fn.results.toList = some vs ∧ pack vs = r ∧ G.mk s'.g.objs s'.g.toks (min g0.wo s'.g.wo) (min g0.wt s'.g.wt) = g2) body []
      (Sx fn.ntmps (fun _ => .undef) L (fun _ => none) [] (E.esc f) g)) : CallsAt E g0 f args r g2 := by
  have hw := h _ rfl
  unfold Sx at hw
  have e : ofL (fun _ => .undef) L = (fun t => args.getD t .undef) := by funext t; rw [hL, args_of]
  rw [e] at hw
  refine .fnKeep _ hf hb (Nat.le_of_ble_eq_true ha) hw fun e s' hq => ?_
  obtain ⟨h1, vs, h2, h3, h4⟩ := hq
  exact ⟨h1, vs, h2, h3, h4⟩
variable {nt : Nat} {b : Nat → V} {L : List (Nat × V)} {rb : Nat → Option (Nat × List V)} {R : List (Nat × (Nat × List V))} {esc : Nat → Bool} {g : G}
theorem x_endK {e : X} {t : Nat} {v r : V} {rs : List ResultVar} {g0 g2 : G} (he : e = .normal ∨ e = .ret) (hrs : rs = [.tmp t]) (hv : getL L t = some v) (h1 : (cellsOf v).all one = true) (hg : G.mk g.objs g.toks (min g0.wo g.wo) (min g0.wt g.wt) = g2) (hr : v = r) :
    (e = .normal ∨ e = .ret) ∧ ∃ vs, resOf E (Sx nt b L rb R esc g) rs = some vs ∧ pack vs = r ∧ G.mk (Sx nt b L rb R esc g).g.objs (Sx nt b L rb R esc g).g.toks (min g0.wo (Sx nt b L rb R esc g).g.wo) (min g0.wt (Sx nt b L rb R esc g).g.wt) = g2 := by
  subst hrs
  refine ⟨he, [v], ?_, hr, hg⟩
  have : (Sx nt b L rb R esc g).tm t = v := getL_of hv
  simp only [resOf, this, h1, if_true]
inductive Pl where
  | fin
  | seg (l : List Nat) (p : Pl)
  | adr (i : Nat) (ad : List (Nat × Bool)) (p : Pl)
  | two (i j : Nat) (p q : Pl)
def Pl.depth : Pl → Nat
  | .fin => 0
  | .seg l p => l.length + p.depth
  | .adr _ _ p => p.depth + 1
  | .two _ _ p q => 1 + max p.depth q.depth
def segT (ops : Array Oper) (esc : Nat → Bool) (tab : List Nat) : Nat → List Nat → Option Nat
  | mask, [] => some mask
  | mask, i :: l => match firstSafe false (fun _ => true) esc ops tab mask (readyM mask 0 ops.toList) with
    | some (j, []) => bif Nat.beq i j then segT ops esc tab (mask ||| 2 ^ i) l else none
    | _ => none
def plT (ops : Array Oper) (esc : Nat → Bool) (tab : List Nat) : Nat → Pl → Bool
  | mask, .fin => match readyM mask 0 ops.toList with
    | [] => true
    | _ => false
  | mask, .seg l p => match segT ops esc tab mask l with
    | some m => l.all (fun i => Nat.blt i ops.size) && plT ops esc tab m p
    | none => false
  | mask, .adr i ad p => decide (firstSafe false (fun _ => true) esc ops tab mask (readyM mask 0 ops.toList) = some (i, ad)) && Nat.blt i ops.size && plT ops esc tab (mask ||| 2 ^ i) p
  | mask, .two i j p q => (match readyM mask 0 ops.toList with
    | [a, c] => Nat.beq a i && Nat.beq c j && !Nat.beq i j
    | _ => false) && (Nat.blt i ops.size && Nat.blt j ops.size) && plT ops esc tab (mask ||| 2 ^ i) p && plT ops esc tab (mask ||| 2 ^ j) q
def adrT (E : Env) (ops : Array Oper) (s : St) (i : Nat) (ad : List (Nat × Bool)) : Bool := match ops[i]? with
  | some a => addrsOk E ops s a ad
  | none => false
def wpT (E : Env) (ops : Array Oper) : Pl → St → (St → Prop) → Prop
  | .fin, s, K => K s
  | .seg l p, s, K => wpO E true ops l s fun s' => wpT E ops p s' K
  | .adr i ad p, s, K => adrT E ops s i ad = true ∧ wpO E true ops [i] s fun s' => wpT E ops p s' K
  | .two i j p q, s, K => wpO E true ops [i] s (fun s' => wpT E ops p s' K) ∧ wpO E true ops [j] s fun s' => wpT E ops q s' K
theorem wpO_do {ops : Array Oper} {i : Nat} {l : List Nat} {s : St} {K : St → Prop} (h : wpO E true ops (i :: l) s K) : ∃ s', Do E (fun _ => true) ops i s s' ∧ wpO E true ops l s' K ∧ ∃ o, ops[i]? = some o := by
  unfold wpO at h
  split at h
  · cases h
  · rename_i o hoo
    split at h
    · cases h
    · rename_i hw
      split at h
      · cases h
      · rename_i s' hp; exact ⟨s', .skip hoo hw hp, h, o, hoo⟩
    · rename_i hw
      split at h
      · rename_i f args hc
        obtain ⟨r, g2, hr, hg2, h⟩ := h
        split at h
        · cases h
        · rename_i s' hp
          exact ⟨s', .call (v := r) (g := g2) hoo hw hc hr (fun _ => hg2 rfl) hp, h, o, hoo⟩
      · split at h
        · cases h
        · rename_i v s1 hs
          split at h
          · cases h
          · rename_i s' hp; exact ⟨s', .step hoo hw hs hp, h, o, hoo⟩
theorem seg_evM {ops : Array Oper} {esc : Nat → Bool} {tab : List Nat} {Q : St → Prop} : ∀ (l : List Nat) (mask m n : Nat) (s : St) (K : St → Prop), segT ops esc tab mask l = some m → wpO E true ops l s K →
    (∀ s', K s' → EvM E (fun _ => true) esc ops tab Q n m s') → EvM E (fun _ => true) esc ops tab Q (l.length + n) mask s := by
  intro l
  induction l with
  | nil => intro mask m n s K hm h hk; simp only [segT, Option.some.injEq] at hm; subst hm; simpa using hk _ h
  | cons i l ih =>
    intro mask m n s K hm h hk
    unfold segT at hm
    split at hm
    · rename_i j hf
      cases hb : Nat.beq i j with
      | false => rw [hb] at hm; cases hm
      | true =>
        rw [hb] at hm
        simp only [cond_true] at hm
        have := Nat.eq_of_beq_eq_true hb
        subst this
        obtain ⟨s', hd, hw, o, ho⟩ := wpO_do h
        have := ih _ m n s' K hm hw hk
        rw [List.length_cons, show l.length + 1 + n = l.length + n + 1 by omega]
        exact .one false hf ho rfl hd this
    · cases hm
theorem EvM.more {cl : Nat → Bool} {esc : Nat → Bool} {ops : Array Oper} {tab : List Nat} {Q : St → Prop} {n mask : Nat} {s : St} (h : EvM E cl esc ops tab Q n mask s) : ∀ m, n ≤ m → EvM E cl esc ops tab Q m mask s := by
  induction h with
  | done a c => intro m _; exact .done a c
  | one st a c d e _ ih =>
    intro m hm
    obtain ⟨m, rfl⟩ : ∃ k, m = k + 1 := ⟨m - 1, by omega⟩
    exact .one st a c d e (ih m (by omega))
  | all f a c _ ih =>
    intro m hm
    obtain ⟨m, rfl⟩ : ∃ k, m = k + 1 := ⟨m - 1, by omega⟩
    exact .all f a c fun i hi => ih i hi m (by omega)
theorem wpT_evM {ops : Array Oper} {esc : Nat → Bool} {tab : List Nat} {Q : St → Prop} : ∀ (p : Pl) (mask : Nat) (s : St) (K : St → Prop), (∀ s', K s' → Q s') → plT ops esc tab mask p = true → wpT E ops p s K → EvM E (fun _ => true) esc ops tab Q p.depth mask s := by
  intro p
  induction p with
  | fin =>
    intro mask s K hK ht h
    unfold plT at ht
    split at ht
    · rename_i hr; exact .done hr (hK _ h)
    · cases ht
  | seg l p ih =>
    intro mask s K hK ht h
    unfold plT at ht
    split at ht
    · rename_i m hm
      rw [Bool.and_eq_true] at ht
      exact seg_evM l mask m _ s _ hm h fun s' hs => ih m s' K hK ht.2 hs
    · cases ht
  | adr i ad p ih =>
    intro mask s K hK ht h
    unfold plT at ht
    simp only [Bool.and_eq_true, decide_eq_true_eq] at ht
    obtain ⟨⟨h1, _⟩, h2⟩ := ht
    obtain ⟨ha, h⟩ := h
    obtain ⟨s', hd, hw, o, ho⟩ := wpO_do h
    unfold adrT at ha
    rw [ho] at ha
    exact .one false h1 ho ha hd (ih _ s' K hK h2 hw)
  | two i j p q ihp ihq =>
    intro mask s K hK ht h
    unfold plT at ht
    simp only [Bool.and_eq_true] at ht
    obtain ⟨⟨⟨h1, _⟩, h2⟩, h3⟩ := ht
    split at h1
    · rename_i a c hr
      simp only [Bool.and_eq_true, Bool.not_eq_true'] at h1
      obtain ⟨⟨ha, hc⟩, hne⟩ := h1
      have ha := Nat.eq_of_beq_eq_true ha
      have hc := Nat.eq_of_beq_eq_true hc
      subst ha hc
      obtain ⟨s1, hd1, hw1, _⟩ := wpO_do h.1
      obtain ⟨s2, hd2, hw2, _⟩ := wpO_do h.2
      have e1 := (ihp _ s1 K hK h2 hw1).more (max p.depth q.depth) (Nat.le_max_left _ _)
      have e2 := (ihq _ s2 K hK h3 hw2).more (max p.depth q.depth) (Nat.le_max_right _ _)
      show EvM E _ esc ops tab Q (1 + max p.depth q.depth) mask s
      rw [Nat.add_comm]
      have hij : c ≠ a := fun e => by rw [e, Nat.beq_refl] at hne; cases hne
      refine .all (fun k => if k = a then s1 else s2) (by rw [hr]; simp) (fun k hk => ?_) fun k hk => ?_
      · rw [hr] at hk
        simp only [List.mem_cons, List.not_mem_nil, or_false] at hk
        rcases hk with rfl | rfl
        · simpa using hd1
        · simpa [hij] using hd2
      · rw [hr] at hk
        simp only [List.mem_cons, List.not_mem_nil, or_false] at hk
        rcases hk with rfl | rfl
        · simpa using e1
        · simpa [hij] using e2
    · cases h1
def wpTL (E : Env) (ops : Array Oper) : Pl → St → (St → Prop) → Prop
  | .fin, s, K => K s
  | .seg l p, s, K => wpL E true ops (l.filterMap (ops[·]?)) s fun s' => wpTL E ops p s' K
  | .adr i ad p, s, K => adrT E ops s i ad = true ∧ wpL E true ops ([i].filterMap (ops[·]?)) s fun s' => wpTL E ops p s' K
  | .two i j p q, s, K => wpL E true ops ([i].filterMap (ops[·]?)) s (fun s' => wpTL E ops p s' K) ∧ wpL E true ops ([j].filterMap (ops[·]?)) s fun s' => wpTL E ops q s' K
theorem wpO_mono {ops : Array Oper} : ∀ {l : List Nat} {s : St} {K K' : St → Prop}, (∀ s', K s' → K' s') → wpO E true ops l s K → wpO E true ops l s K' := by
  intro l
  induction l with
  | nil => intro s K K' hk h; exact hk _ h
  | cons i l ih =>
    intro s K K' hk h
    unfold wpO at h ⊢
    split at h
    · cases h
    · split at h
      · cases h
      · split at h
        · cases h
        · rename_i hp; first | exact ih hk h | (rw [hp]; exact ih hk h)
      · split at h
        · obtain ⟨r, g2, hr, hg2, h⟩ := h
          refine ⟨r, g2, hr, hg2, ?_⟩
          split at h
          · cases h
          · rename_i hp; first | exact ih hk h | (rw [hp]; exact ih hk h)
        · split at h
          · cases h
          · split at h
            · cases h
            · rename_i hp; first | exact ih hk h | (rw [hp]; exact ih hk h)
theorem wpTL_wpT {ops : Array Oper} {esc : Nat → Bool} {tab : List Nat} : ∀ (p : Pl) (mask : Nat) (s : St) (K : St → Prop), plT ops esc tab mask p = true → wpTL E ops p s K → wpT E ops p s K := by
  intro p
  induction p with
  | fin => intro _ s K _ h; exact h
  | seg l p ih =>
    intro mask s K ht h
    unfold plT at ht
    split at ht
    · rename_i m hm
      rw [Bool.and_eq_true] at ht
      exact wpO_mono (fun s' hs => ih m s' K ht.2 hs) (wpL_wpO _ _ (fun i hi => Nat.le_of_ble_eq_true (List.all_eq_true.1 ht.1 i hi)) h)
    · cases ht
  | adr i ad p ih =>
    intro mask s K ht h
    unfold plT at ht
    simp only [Bool.and_eq_true] at ht
    obtain ⟨⟨_, h1⟩, h2⟩ := ht
    refine ⟨h.1, wpO_mono (fun s' hs => ih _ s' K h2 hs) (wpL_wpO _ _ (fun k hk => ?_) h.2)⟩
    simp only [List.mem_singleton] at hk; subst hk; exact Nat.le_of_ble_eq_true h1
  | two i j p q ihp ihq =>
    intro mask s K ht h
    unfold plT at ht
    simp only [Bool.and_eq_true] at ht
    obtain ⟨⟨⟨_, h1⟩, h2⟩, h3⟩ := ht
    refine ⟨wpO_mono (fun s' hs => ihp _ s' K h2 hs) (wpL_wpO _ _ (fun k hk => ?_) h.1), wpO_mono (fun s' hs => ihq _ s' K h3 hs) (wpL_wpO _ _ (fun k hk => ?_) h.2)⟩
    · simp only [List.mem_singleton] at hk; subst hk; exact Nat.le_of_ble_eq_true h1.1
    · simp only [List.mem_singleton] at hk; subst hk; exact Nat.le_of_ble_eq_true h1.2
variable {Q : X → St → Prop} {ks : List Ko}
theorem xc_drwP {id : Nat} {ops : Array Oper} (p : Pl) (hm : E.P.follows .mixedOrders = true)
    (ho : (tabOk ops (aheads ops) && Nat.ble p.depth ops.size && plT ops esc (aheads ops) 0 p) = true)
    (h : ∀ K : St → Prop, (∀ s', Go' E Q ks .normal s' → K s') → wpTL E ops p (Sx nt b L rb R esc g) K) : Wc E Q (.region id ops true) ks (Sx nt b L rb R esc g) := by
  simp only [Bool.and_eq_true] at ho
  exact EvM.sound hm ho.1.1 ((wpT_evM p 0 _ _ (fun _ h => h) ho.2 (wpTL_wpT p 0 _ _ ho.2 (h _ fun _ h => h))).more _ (Nat.le_of_ble_eq_true ho.1.2))
theorem xc_drwPX {σ : Type} {id : Nat} {ops : Array Oper} (p : Pl) (hm : E.P.follows .mixedOrders = true)
    (ho : (tabOk ops (aheads ops) && Nat.ble p.depth ops.size && plT ops esc (aheads ops) 0 p) = true) (Lf : List (Nat × V)) (Rk : List (Nat × (Nat × List V))) (Lw : σ → List (Nat × V)) (Gw : σ → G) (I : σ → Prop) (_hL : subL Lf L) (_hR : subR Rk R)
    (h1 : ∀ K : St → Prop, (∀ x b' L' rb' R' g', I x → subL (Lw x ++ Lf) L' → subR Rk R' → Gw x = g' → K (Sx nt b' L' rb' R' esc g')) → wpTL E ops p (Sx nt b L rb R esc g) K)
    (h2 : ∀ x b rb, I x → Go' E Q ks .normal (Sx nt b (Lw x ++ Lf) rb Rk esc (Gw x))) : Wc E Q (.region id ops true) ks (Sx nt b L rb R esc g) := by
  refine xc_drwP p hm ho fun K hK => h1 K fun x b' L' rb' R' g' hi hl hr hg => ?_
  subst hg
  obtain ⟨b2, rb2, e⟩ := Hd.mk (nt := nt) (b := b') (rb := rb') (esc := esc) (g := Gw x) hl hr
  rw [e]
  exact hK _ (h2 x b2 rb2 hi)
theorem pl_seg {ops : Array Oper} {l : List Nat} {p : Pl} {s : St} {K : St → Prop} (h : wpL E true ops (l.filterMap (ops[·]?)) s fun s' => wpTL E ops p s' K) : wpTL E ops (.seg l p) s K := h
theorem pl_adr {ops : Array Oper} {i : Nat} {ad : List (Nat × Bool)} {p : Pl} {s : St} {K : St → Prop} (h1 : adrT E ops s i ad = true) (h : wpL E true ops ([i].filterMap (ops[·]?)) s fun s' => wpTL E ops p s' K) : wpTL E ops (.adr i ad p) s K := ⟨h1, h⟩
theorem pl_two {ops : Array Oper} {i j : Nat} {p q : Pl} {s : St} {K : St → Prop} (h1 : wpL E true ops ([i].filterMap (ops[·]?)) s fun s' => wpTL E ops p s' K) (h2 : wpL E true ops ([j].filterMap (ops[·]?)) s fun s' => wpTL E ops q s' K) : wpTL E ops (.two i j p q) s K := ⟨h1, h2⟩
theorem pl_end {ops : Array Oper} {p : Pl} {s : St} {K : St → Prop} (h : wpTL E ops p s K) : wpL E true ops [] s (fun s' => wpTL E ops p s' K) := h
theorem pl_fin {ops : Array Oper} {s : St} {K : St → Prop} (h : K s) : wpTL E ops .fin s K := h
end
end Go.Vm
namespace Go.Vm
open Go
def eI (n : Int) : V := .p (.int .i64 n)
def incW (n : Int) : Int := IntKind.i64.wrap (n + 1)
theorem incW_small {n : Int} (h : -9223372036854775808 ≤ n) (h2 : n < 9223372036854775807) : incW n = n + 1 := by
  simp only [incW, IntKind.wrap]
  first | (simp [IntKind.bits, IntKind.signed]; done) | (simp [IntKind.bits, IntKind.signed, Int.bmod]; omega) | skip
def upI (us : List Int) (k : Int) : List Int := us.set k.toNat (incW (us.getD k.toNat 0))
def noteP (us : List Int) (below : Int) : List Int → Bool × List Int
  | [] => (true, us)
  | k :: ks => if k < 0 ∨ below ≤ k then (false, us) else noteP (upI us k) below ks
theorem noteP_len {us : List Int} {below : Int} {ks : List Int} : (noteP us below ks).2.length = us.length := by
  induction ks generalizing us with
  | nil => rfl
  | cons k ks ih =>
    unfold noteP
    split
    · rfl
    · rw [ih]; simp [upI]
theorem noteP_bad {us : List Int} {below : Int} {ks : List Int} {j : Nat} {us0 : List Int} {ks0 : List Int} (hj : j < ks.length) (he : noteP us0 below ks0 = noteP us below (ks.drop j)) (h : ks[j] < 0 ∨ below ≤ ks[j]) : noteP us0 below ks0 = (false, us) := by
  rw [he, List.drop_eq_getElem_cons hj]
  unfold noteP
  rw [if_pos h]
theorem noteP_up {us : List Int} {below : Int} {ks : List Int} {j : Nat} {us0 : List Int} {ks0 : List Int} (hj : j < ks.length) (he : noteP us0 below ks0 = noteP us below (ks.drop j)) (h1 : 0 ≤ ks[j]) (h2 : ks[j] < below) : noteP us0 below ks0 = noteP (upI us ks[j]) below (ks.drop (j + 1)) := by
  rw [he, List.drop_eq_getElem_cons hj]
  conv => lhs; unfold noteP
  rw [if_neg (by omega)]
theorem noteP_end {us : List Int} {below : Int} {ks : List Int} {j : Nat} {us0 : List Int} {ks0 : List Int} (hj : ks.length ≤ j) (he : noteP us0 below ks0 = noteP us below (ks.drop j)) : noteP us0 below ks0 = (true, us) := by
  rw [he, List.drop_eq_nil_of_le hj]; rfl
theorem at_obj {g : G} {id w : Nat} {o o' : Ob} (h : g.objs[id]? = some o') : (g.at' id o w).objs[id]? = some o := by
  have := (List.getElem?_eq_some_iff.1 h).1
  simp [G.at', this]
theorem at_set {g : G} {id w : Nat} {o o' : Ob} : (g.at' id o w).setObj id o' = g.at' id o' (min w id) := by
  simp [G.at', G.setObj, List.set_set]
theorem at_start {g : G} {id : Nat} {o : Ob} (h : g.objs[id]? = some o) : g.at' id o g.objs.length = { g with wo := g.objs.length, wt := g.toks.length } := by
  have := List.getElem?_eq_some_iff.1 h
  obtain ⟨h1, h2⟩ := this
  simp only [G.at']
  congr 1
  subst h2
  simp
theorem at_end {g : G} {id w : Nat} {o o' : Ob} (hw : g.wo ≤ w) (ht : g.wt ≤ g.toks.length) (he : o = o') : G.mk (g.at' id o w).objs (g.at' id o w).toks (min g.wo (g.at' id o w).wo) (min g.wt (g.at' id o w).wt) = g.upd id o' := by
  subst he
  simp only [G.at', G.upd]
  congr 1 <;> omega
theorem upI_map {us : List Int} {k : Int} (h0 : 0 ≤ k) (h : k < us.length) : (us.map eI).set (0 + k.toNat * 1) (eI (incW (us.getD k.toNat 0))) = (upI us k).map eI := by
  simp [upI, List.map_set]
theorem getI {us : List Int} {k : Int} (h0 : 0 ≤ k) (h : k < us.length) : (us.map eI)[0 + k.toNat * 1]? = some (eI (us.getD k.toNat 0)) := by
  have : k.toNat < us.length := by omega
  simp [this]
theorem getN {us : List Int} {j : Nat} (h : j < us.length) : (us.map eI)[0 + (j : Int).toNat * 1]? = some (eI us[j]) := by
  simp [h]
end Go.Vm
set_option linter.unusedVariables false
namespace Go.Vm
open Go Go.Proofs
attribute [local irreducible] wpL
set_option maxRecDepth 20000 in
theorem note_ok {g0 : G} {id : Nat} {us : List Int} {v : V} {a : List Int} {below : Int} (hv : Rd eInt v a) (ha : a.length < 2 ^ 60) (hid : g0.objs[id]? = some (.cells (us.map eI))) (hwo : g0.wo ≤ id) (hwt : g0.wt ≤ g0.toks.length) (hb : below ≤ us.length) : CallsAt En g0 123 [.arr id 0 us.length us.length 1, v, .p (.int .i64 below)] (.p (.bool (noteP us below a).1)) (g0.upd id (.cells ((noteP us below a).2.map eI))) := by
  have hidl := (List.getElem?_eq_some_iff.1 hid).1
  refine keep_walk [(0, .arr id 0 us.length us.length 1), (1, v), (2, .p (.int .i64 below))] Tryz.func123 rfl rfl rfl fun g hg => ?_
  show Wc En _ (Tryz.f123.body.getD .skip) [] (Sx 29 _ _ _ _ _ _)
  unfold Tryz.f123
  simp only [Option.getD_some]
  refine wc_seq ?_
  refine wc_reg fun K hK => ?_
  refine x_assign rfl rfl rfl ?_
  refine x_nil (hK _ ?_); clear hK K
  refine go_seq ?_
  refine wc_seq ?_
  refine wc_seq ?_
  refine wc_reg fun K hK => ?_
  refine x_move rfl rfl rfl ?_
  refine x_len rfl rfl rfl (by first | assumption | exact Rd.enc) und27 ?_
  refine x_move rfl rfl rfl ?_
  refine x_nil (hK _ ?_); clear hK K
  refine go_seq ?_
  refine wc_block ?_
  refine xc_loopG [(0, _), (2, _), (9, _), (10, _)] [] (fun x : Nat × List Int × Nat => [(11, .p (.int .i64 x.1))]) (fun x : Nat × List Int × Nat => []) (fun x : Nat × List Int × Nat => g0.at' id (.cells (x.2.1.map eI)) x.2.2) (fun x : Nat × List Int × Nat => x.1 ≤ a.length ∧ x.2.1.length = us.length ∧ g0.wo ≤ x.2.2 ∧ noteP us below a = noteP x.2.1 below (a.drop x.1)) (fun x : Nat × List Int × Nat => a.length - x.1) (0, us, g0.objs.length) (by repeat (first | exact trivial | refine And.intro rfl ?_)) (by repeat (first | exact trivial | refine And.intro rfl ?_)) (by rw [hg]; exact at_start hid) ⟨Nat.zero_le _, rfl, by show g0.wo ≤ g0.objs.length; omega, by simp⟩ ?_
  rintro ⟨j, us1, w⟩ R hR1 hR2 ⟨hj, hl, hw, hn⟩ b rb
  dsimp only at hj hl hw hn ⊢
  refine wc_seq ?_
  refine wc_reg fun K hK => ?_
  refine x_bin rfl rfl rfl rfl rfl ?_
  refine x_nil (hK _ ?_); clear hK K
  refine go_seq ?_
  refine wc_seq ?_
  refine xc_cond _ rfl (fun hc0 => ?_) (fun hc0 => ?_)
  · skip
    have hlt : j < a.length := by simp at hc0; omega
    have e1 : a[j]? = some a[j] := by simp
    refine wc_skip ?_
    refine go_seq ?_
    refine wc_seq ?_
    refine wc_block ?_
    refine wc_seq ?_
    refine wc_reg fun K hK => ?_
    refine x_ia rfl rfl rfl (by first | assumption | exact Rd.enc) rfl und27 sz3 rfl (by assumption) rfl ?_
    refine x_ldR rfl rfl rfl isag3 rfl ?_
    refine x_assign rfl rfl rfl ?_
    refine x_nil (hK _ ?_); clear hK K
    refine go_seq ?_
    refine wc_seq ?_
    refine wc_seq ?_
    refine wc_reg fun K hK => ?_
    refine x_move rfl rfl rfl ?_
    refine x_bin rfl rfl rfl rfl rfl ?_
    refine x_moveS rfl rfl rfl (fun hg17 => ?_) (fun hg17 => ?_)
    · skip
      refine x_skip rfl rfl ?_
      refine x_skip rfl rfl ?_
      refine x_skip rfl rfl ?_
      refine x_pickT rfl rfl rfl rfl ?_
      refine x_nil (hK _ ?_); clear hK K
      refine go_seq ?_
      refine xc_cond true rfl (fun _ => ?_) (fun h => by cases h)
      refine wc_seq ?_
      refine wc_reg fun K hK => ?_
      refine x_assign rfl rfl rfl ?_
      refine x_nil (hK _ ?_); clear hK K
      refine go_seq ?_
      refine wc_ret ?_
      refine go_seq_ret ?_
      refine go_blk_ret ?_
      refine go_seq_ret ?_
      refine hR2 _ _ (by simp) ?_
      refine go_blk_ret ?_
      refine go_seq_ret ?_
      exact x_endK (Or.inr rfl) rfl rfl rfl (at_end hw hwt (by rw [noteP_bad hlt hn (by simp at hg17; omega)])) (by rw [noteP_bad hlt hn (by simp at hg17; omega)])
    · skip
      refine x_move rfl rfl rfl ?_
      refine x_move rfl rfl rfl ?_
      refine x_bin rfl rfl rfl rfl rfl ?_
      refine x_pickF rfl rfl rfl rfl ?_
      refine x_nil (hK _ ?_); clear hK K
      refine go_seq ?_
      refine xc_cond _ rfl (fun hc1 => ?_) (fun hc1 => ?_)
      · skip
        refine wc_seq ?_
        refine wc_reg fun K hK => ?_
        refine x_assign rfl rfl rfl ?_
        refine x_nil (hK _ ?_); clear hK K
        refine go_seq ?_
        refine wc_ret ?_
        refine go_seq_ret ?_
        refine go_blk_ret ?_
        refine go_seq_ret ?_
        refine hR2 _ _ (by simp) ?_
        refine go_blk_ret ?_
        refine go_seq_ret ?_
        exact x_endK (Or.inr rfl) rfl rfl rfl (at_end hw hwt (by rw [noteP_bad hlt hn (by simp at hc1; omega)])) (by rw [noteP_bad hlt hn (by simp at hc1; omega)])
      · skip
        have h0 : 0 ≤ a[j] := by simp at hg17; omega
        have h1 : a[j] < us1.length := by simp at hc1; omega
        refine wc_skip ?_
        refine go_seq ?_
        refine wc_reg fun K hK => ?_
        refine x_move rfl rfl rfl ?_
        refine x_move rfl rfl rfl ?_
        refine x_iaA rfl rfl rfl rfl und178 sz3 rfl h0 (by omega) ?_
        refine x_ldO rfl rfl rfl isag3 (at_obj hid) (getI h0 h1) ?_
        refine x_bin rfl rfl rfl rfl rfl ?_
        refine x_iaA rfl rfl rfl rfl und178 sz3 rfl h0 (by omega) ?_
        refine x_stO rfl rfl rfl sz3 rfl rfl (at_obj hid) (by simp; omega) ?_
        refine x_nil (hK _ ?_); clear hK K
        refine go_blk ?_
        refine go_seq ?_
        refine wc_reg fun K hK => ?_
        refine x_inc rfl rfl rfl rfl (by omega) ?_
        refine x_move rfl rfl rfl ?_
        refine x_nil (hK _ ?_); clear hK K
        exact hR1 (j + 1, upI us1 a[j], min w id) _ _ _ _ _ ⟨hlt, by simp [upI, hl], by show g0.wo ≤ min w id; omega, noteP_up hlt hn h0 (by simp at hc1; omega)⟩ (by show a.length - (j + 1) < a.length - j; omega) (by repeat (first | exact trivial | refine And.intro rfl ?_)) (by repeat (first | exact trivial | refine And.intro rfl ?_)) (by rw [at_set]; exact congrArg (fun z => g0.at' id (.cells z) (min w id)) (upI_map h0 h1).symm)
  · skip
    refine wc_exit ?_
    refine go_seq_exit ?_
    refine hR2 _ _ (by simp) ?_
    refine go_blk_exit ?_
    refine go_seq ?_
    refine wc_seq ?_
    refine wc_reg fun K hK => ?_
    refine x_assign rfl rfl rfl ?_
    refine x_nil (hK _ ?_); clear hK K
    refine go_seq ?_
    refine wc_ret ?_
    have hge : a.length ≤ j := by simp at hc0; omega
    exact x_endK (Or.inr rfl) rfl rfl rfl (at_end hw hwt (by rw [noteP_end hge hn])) (by rw [noteP_end hge hn])
end Go.Vm
set_option linter.unusedVariables false
namespace Go.Vm
open Go Go.Proofs
attribute [local irreducible] wpL
set_option maxRecDepth 20000 in
theorem odd_ok (n : Int) : Pure En 126 [.p (.int .i64 n)] (.p (.bool (n != 1))) := by
  refine pure_walk [(0, .p (.int .i64 n))] Tryz.func126 rfl rfl rfl fun g hwo hwt => ?_
  show Wc En _ (Tryz.f126.body.getD .skip) [] (Sx 5 _ _ _ _ _ _)
  unfold Tryz.f126
  simp only [Option.getD_some]
  refine wc_seq ?_
  refine wc_reg fun K hK => ?_
  refine x_assign rfl rfl rfl ?_
  refine x_nil (hK _ ?_); clear hK K
  refine go_seq ?_
  refine wc_seq ?_
  refine wc_reg fun K hK => ?_
  refine x_move rfl rfl rfl ?_
  refine x_bin rfl rfl rfl rfl rfl ?_
  refine x_assign rfl rfl rfl ?_
  refine x_nil (hK _ ?_); clear hK K
  refine go_seq ?_
  refine wc_ret ?_
  exact x_end1 (Or.inr rfl) rfl rfl rfl rfl rfl rfl rfl
set_option maxRecDepth 20000 in
theorem indexU_ok {g0 : G} {id : Nat} {us : List Int} (hid : g0.objs[id]? = some (.cells (us.map eI))) (ha : us.length < 2 ^ 60) : CallsAt En g0 151 [.arr id 0 us.length us.length 1, .fn (.func 126) []] (.p (.int .i64 (idxP (· != 1) us))) g0 := by
  refine at_walk [(0, .arr id 0 us.length us.length 1), (1, .fn (.func 126) [])] Tryz.func151 rfl rfl rfl fun g hgo hgt hwo hwt => ?_
  show Wc En _ (Tryz.f151.body.getD .skip) [] (Sx 19 _ _ _ _ _ _)
  unfold Tryz.f151
  simp only [Option.getD_some]
  refine wc_seq ?_
  refine wc_reg fun K hK => ?_
  refine x_assign rfl rfl rfl ?_
  refine x_nil (hK _ ?_); clear hK K
  refine go_seq ?_
  refine wc_seq ?_
  refine wc_seq ?_
  refine wc_reg fun K hK => ?_
  refine x_move rfl rfl rfl ?_
  refine x_lenA rfl rfl rfl und178 ?_
  refine x_move rfl rfl rfl ?_
  refine x_nil (hK _ ?_); clear hK K
  refine go_seq ?_
  refine wc_block ?_
  refine xc_loop [(0, _), (1, _), (7, _)] [] (fun j : Nat => [(8, .p (.int .i64 j))]) (fun j : Nat => j ≤ us.length ∧ ∀ i, i < j → ∃ c, us[i]? = some c ∧ (!(c != 1)) = true) (fun j : Nat => us.length - j) 0 (by repeat (first | exact trivial | refine And.intro rfl ?_)) (by repeat (first | exact trivial | refine And.intro rfl ?_)) ⟨Nat.zero_le _, fun i hi => by omega⟩ ?_
  rintro j R hR1 hR2 ⟨hj, hr⟩ b rb
  refine wc_seq ?_
  refine wc_reg fun K hK => ?_
  refine x_bin rfl rfl rfl rfl rfl ?_
  refine x_nil (hK _ ?_); clear hK K
  refine go_seq ?_
  refine wc_seq ?_
  refine xc_cond _ rfl (fun hc0 => ?_) (fun hc0 => ?_)
  · skip
    have hlt : j < us.length := by simp at hc0; omega
    have e1 : us[j]? = some us[j] := by simp
    refine wc_skip ?_
    refine go_seq ?_
    refine wc_seq ?_
    refine wc_block ?_
    refine wc_seq ?_
    refine wc_reg fun K hK => ?_
    refine x_move rfl rfl rfl ?_
    refine x_assign rfl rfl rfl ?_
    refine x_nil (hK _ ?_); clear hK K
    refine go_seq ?_
    refine wc_seq ?_
    refine wc_reg fun K hK => ?_
    refine x_move rfl rfl rfl ?_
    refine x_move rfl rfl rfl ?_
    refine x_move rfl rfl rfl ?_
    refine x_iaA rfl rfl rfl rfl und178 sz3 rfl (by omega) (by omega) ?_
    refine x_ldO rfl rfl rfl isag3 (by rw [hgo]; exact hid) (getN hlt) ?_
    refine x_callD rfl rfl rfl rfl (by repeat (first | exact ho_nil | refine ho_cons (by first | rfl | exact rd_ho (by assumption)) ?_)) okf126 (odd_ok _ _) ?_
    refine x_nil (hK _ ?_); clear hK K
    refine go_seq ?_
    refine xc_cond _ rfl (fun hc1 => ?_) (fun hc1 => ?_)
    · skip
      refine wc_seq ?_
      refine wc_reg fun K hK => ?_
      refine x_move rfl rfl rfl ?_
      refine x_assign rfl rfl rfl ?_
      refine x_nil (hK _ ?_); clear hK K
      refine go_seq ?_
      refine wc_ret ?_
      refine go_blk_ret ?_
      refine go_seq_ret ?_
      refine hR2 _ _ (by simp) ?_
      refine go_blk_ret ?_
      refine go_seq_ret ?_
      exact x_end1 (Or.inr rfl) rfl rfl rfl rfl rfl rfl (ieq (idxP_at hr e1 hc1).symm)
    · skip
      refine wc_skip ?_
      refine go_blk ?_
      refine go_seq ?_
      refine wc_reg fun K hK => ?_
      refine x_inc rfl rfl rfl rfl (by omega) ?_
      refine x_move rfl rfl rfl ?_
      refine x_nil (hK _ ?_); clear hK K
      exact hR1 (j + 1) _ _ _ _ ⟨hlt, leadP_up hr e1 (by rw [hc1]; rfl)⟩ (by omega) (by repeat (first | exact trivial | refine And.intro rfl ?_)) (by repeat (first | exact trivial | refine And.intro rfl ?_))
  · skip
    refine wc_exit ?_
    refine go_seq_exit ?_
    refine hR2 _ _ (by simp) ?_
    refine go_blk_exit ?_
    refine go_seq ?_
    refine wc_seq ?_
    refine wc_reg fun K hK => ?_
    refine x_assign rfl rfl rfl ?_
    refine x_nil (hK _ ?_); clear hK K
    refine go_seq ?_
    refine wc_ret ?_
    exact x_end1 (Or.inr rfl) rfl rfl rfl rfl rfl rfl (ieq (idxP_no (fun i hi => hr i (by simp at hc0; omega))).symm)
set_option maxRecDepth 20000 in
theorem containsU_ok {g0 : G} {id : Nat} {us : List Int} (hid : g0.objs[id]? = some (.cells (us.map eI))) (ha : us.length < 2 ^ 60) : CallsAt En g0 127 [.arr id 0 us.length us.length 1, .fn (.func 126) []] (.p (.bool (us.any (· != 1)))) g0 := by
  refine at_walk [(0, .arr id 0 us.length us.length 1), (1, .fn (.func 126) [])] Tryz.func127 rfl rfl rfl fun g hgo hgt hwo hwt => ?_
  show Wc En _ (Tryz.f127.body.getD .skip) [] (Sx 9 _ _ _ _ _ _)
  unfold Tryz.f127
  simp only [Option.getD_some]
  refine wc_seq ?_
  refine wc_reg fun K hK => ?_
  refine x_assign rfl rfl rfl ?_
  refine x_nil (hK _ ?_); clear hK K
  refine go_seq ?_
  refine wc_seq ?_
  refine wc_reg fun K hK => ?_
  refine x_move rfl rfl rfl ?_
  refine x_move rfl rfl rfl ?_
  refine x_call rfl rfl rfl (by repeat (first | exact ho_nil | refine ho_cons (by first | rfl | exact rd_ho (by assumption)) ?_)) okf151 (indexU_ok (by rw [hgo]; exact hid) ha) ?_
  refine x_bin rfl rfl rfl rfl rfl ?_
  refine x_assign rfl rfl rfl ?_
  refine x_nil (hK _ ?_); clear hK K
  refine go_seq ?_
  refine wc_ret ?_
  exact x_end1 (Or.inr rfl) rfl rfl rfl rfl rfl rfl (veq (by rw [← idxP_ge]))
end Go.Vm
set_option linter.unusedVariables false
namespace Go.Vm
open Go
structure Node where
  kind : Int
  pos : Int
  name : ByteArray
  int : Int
  bits : Int
  names : Sl ByteArray
  kids : Sl Int
  types : Sl Int
def Node.enc (n : Node) : List PV := [.int .i64 n.kind, .int .i64 n.pos, .str n.name, .int .i64 n.int, .int .u64 n.bits, n.names.enc eStr, n.kids.enc eInt, n.types.enc eInt]
structure ANode where
  name : ByteArray
  type : Int
  pos : Int
def ANode.enc (n : ANode) : List PV := [.str n.name, .int .i64 n.type, .int .i64 n.pos]
structure Tree where
  nodes : Sl Node
  types : Sl TNode
  aliases : Sl ANode
def Tree.enc (t : Tree) : List PV := [t.nodes.enc Node.enc, t.types.enc TNode.enc, t.aliases.enc ANode.enc]
structure Tree.ok (t : Tree) : Prop where
  nodes : t.nodes.l.length < 2 ^ 60
  types : t.types.l.length < 2 ^ 60
  aliases : t.aliases.l.length < 2 ^ 60
  kids : ∀ n, n ∈ t.nodes.l → n.kids.l.length < 2 ^ 60 ∧ n.types.l.length < 2 ^ 60
  tkids : ∀ n, n ∈ t.types.l → n.kids.l.length < 2 ^ 60
section
variable (tb : Node → Bool) (yb : TNode → Bool) (ab : ANode → Bool)
def nodesP (nT : Int) : Nat → List Int → List Int → List Node → Option (List Int × List Int)
  | _, us, vs, [] => some (us, vs)
  | k, us, vs, n :: ns => if tb n = true ∧ (noteP us k n.kids.l).1 = true ∧ (noteP vs nT n.types.l).1 = true then nodesP nT (k + 1) (noteP us k n.kids.l).2 (noteP vs nT n.types.l).2 ns else none
def typesP : Nat → List Int → List TNode → Option (List Int)
  | _, vs, [] => some vs
  | k, vs, n :: ns => if yb n = true ∧ (noteP vs k n.kids.l).1 = true then typesP (k + 1) (noteP vs k n.kids.l).2 ns else none
def aliasP (nT : Int) : List Int → List ANode → Option (List Int)
  | vs, [] => some vs
  | vs, n :: ns => if ab n = true ∧ (noteP vs nT [n.type]).1 = true then aliasP nT (noteP vs nT [n.type]).2 ns else none
variable (t : Tree)
def c3 (us : List Int) : Option (List Int) → Int
  | none => 14
  | some vs => if (upI us ((t.nodes.l.length : Int) - 1)).any (· != 1) || vs.any (· != 1) then 14 else 0
def c2 (us : List Int) : Option (List Int) → Int
  | none => 14
  | some vs => c3 t us (aliasP ab t.types.l.length vs t.aliases.l)
def c1 : Option (List Int × List Int) → Int
  | none => 14
  | some (us, vs) => c2 ab t us (typesP yb 0 vs t.types.l)
def checkP : Int := if t.nodes.l.length = 0 ∨ 65536 < t.nodes.l.length ∨ 65536 < t.types.l.length then 14 else
  c1 yb ab t (nodesP tb t.types.l.length 0 (List.replicate t.nodes.l.length 0) (List.replicate t.types.l.length 0) t.nodes.l)
end
def twoO (sw : Bool) (us vs : List Int) : List Ob := if sw then [.cells (vs.map eI), .cells (us.map eI)] else [.cells (us.map eI), .cells (vs.map eI)]
def ti (sw : Bool) : Nat := if sw then 1 else 0
def vi (sw : Bool) : Nat := if sw then 0 else 1
theorem two_t {g : G} {sw : Bool} {us vs : List Int} : (g.ext (twoO sw us vs) []).objs[g.objs.length + ti sw]? = some (.cells (us.map eI)) := by
  rw [ext_obj]; cases sw <;> rfl
theorem two_v {g : G} {sw : Bool} {us vs : List Int} : (g.ext (twoO sw us vs) []).objs[g.objs.length + vi sw]? = some (.cells (vs.map eI)) := by
  rw [ext_obj]; cases sw <;> rfl
theorem two_ut {g : G} {sw : Bool} {us us' vs : List Int} : (g.ext (twoO sw us vs) []).upd (g.objs.length + ti sw) (.cells (us'.map eI)) = g.ext (twoO sw us' vs) [] := by
  rw [ext_upd]; cases sw <;> rfl
theorem two_uv {g : G} {sw : Bool} {us vs vs' : List Int} : (g.ext (twoO sw us vs) []).upd (g.objs.length + vi sw) (.cells (vs'.map eI)) = g.ext (twoO sw us vs') [] := by
  rw [ext_upd]; cases sw <;> rfl
theorem two_st {g : G} {sw : Bool} {us us' vs : List Int} (h : g.wo = g.objs.length) : (g.ext (twoO sw us vs) []).setObj (g.objs.length + ti sw) (.cells (us'.map eI)) = g.ext (twoO sw us' vs) [] := by
  rw [ext_set h]; cases sw <;> rfl
theorem two_start {g : G} {n m : Nat} : g.ext (twoO false (List.replicate n 0) (List.replicate m 0)) [] = g.ext ([] ++ [.cells (List.replicate n [V.p (.int .i64 0)]).flatten] ++ [.cells (List.replicate m [V.p (.int .i64 0)]).flatten]) [] := by
  simp [twoO, eI, List.flatten_replicate_singleton]
theorem two_start' {g : G} {n m : Nat} : g.ext (twoO true (List.replicate n 0) (List.replicate m 0)) [] = g.ext ([] ++ [.cells (List.replicate m [V.p (.int .i64 0)]).flatten] ++ [.cells (List.replicate n [V.p (.int .i64 0)]).flatten]) [] := by
  simp [twoO, eI, List.flatten_replicate_singleton]
theorem nodesP_at {tb : Node → Bool} {nT : Int} {k : Nat} {us vs : List Int} {l : List Node} {n : Node} (hk : k < l.length) (e : l[k]? = some n) :
    nodesP tb nT k us vs (l.drop k) = if tb n = true ∧ (noteP us k n.kids.l).1 = true ∧ (noteP vs nT n.types.l).1 = true then nodesP tb nT (k + 1) (noteP us k n.kids.l).2 (noteP vs nT n.types.l).2 (l.drop (k + 1)) else none := by
  rw [List.getElem?_eq_getElem hk] at e
  cases e
  rw [List.drop_eq_getElem_cons hk]; rfl
theorem typesP_at {yb : TNode → Bool} {k : Nat} {vs : List Int} {l : List TNode} {n : TNode} (hk : k < l.length) (e : l[k]? = some n) :
    typesP yb k vs (l.drop k) = if yb n = true ∧ (noteP vs k n.kids.l).1 = true then typesP yb (k + 1) (noteP vs k n.kids.l).2 (l.drop (k + 1)) else none := by
  rw [List.getElem?_eq_getElem hk] at e
  cases e
  rw [List.drop_eq_getElem_cons hk]; rfl
theorem aliasP_at {ab : ANode → Bool} {nT : Int} {k : Nat} {vs : List Int} {l : List ANode} {n : ANode} (hk : k < l.length) (e : l[k]? = some n) :
    aliasP ab nT vs (l.drop k) = if ab n = true ∧ (noteP vs nT [n.type]).1 = true then aliasP ab nT (noteP vs nT [n.type]).2 (l.drop (k + 1)) else none := by
  rw [List.getElem?_eq_getElem hk] at e
  cases e
  rw [List.drop_eq_getElem_cons hk]; rfl
end Go.Vm
