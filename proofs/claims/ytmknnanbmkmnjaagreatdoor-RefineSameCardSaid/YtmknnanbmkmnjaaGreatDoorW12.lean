/- Part 12 of the texts that the claim leans on: a judgement on the program over plain values, its soundness, and contracts of functions. -/
import Derived.Test.YtmknnanbmkmnjaaGreatDoorW11
set_option linter.unusedVariables false
set_option linter.unusedSimpArgs false
set_option linter.unusedVariables false
namespace Go.Vm
open Go Go.Proofs
attribute [local irreducible] wpL
theorem note_t {g : G} (hwo : g.wo = g.objs.length) (hwt : g.wt = g.toks.length) {sw : Bool} {us vs : List Int} {N : Nat} (hN : us.length = N) {v : V} {a : List Int} {below : Int} (hv : Rd eInt v a) (ha : a.length < 2 ^ 60) (hb : below ≤ us.length) :
  CallsAt En (g.ext (twoO sw us vs) []) 123 [.arr (g.objs.length + ti sw) 0 N N 1, v, .p (.int .i64 below)] (.p (.bool (noteP us below a).1)) (g.ext (twoO sw (noteP us below a).2 vs) []) := by
 subst hN
 have := note_ok (g0 := g.ext (twoO sw us vs) []) hv ha two_t (by show g.wo ≤ _; omega) (by show g.wt ≤ (g.toks ++ []).length; simp; omega) hb
 rw [two_ut] at this
 exact this
theorem note_v {g : G} (hwo : g.wo = g.objs.length) (hwt : g.wt = g.toks.length) {sw : Bool} {us vs : List Int} {N : Nat} (hN : vs.length = N) {v : V} {a : List Int} {below : Int} (hv : Rd eInt v a) (ha : a.length < 2 ^ 60) (hb : below ≤ vs.length) :
  CallsAt En (g.ext (twoO sw us vs) []) 123 [.arr (g.objs.length + vi sw) 0 N N 1, v, .p (.int .i64 below)] (.p (.bool (noteP vs below a).1)) (g.ext (twoO sw us (noteP vs below a).2) []) := by
 subst hN
 have := note_ok (g0 := g.ext (twoO sw us vs) []) hv ha two_v (by show g.wo ≤ _; omega) (by show g.wt ≤ (g.toks ++ []).length; simp; omega) hb
 rw [two_uv] at this
 exact this
theorem containsU_at {g0 : G} {id : Nat} {us : List Int} {N : Nat} (hid : g0.objs[id]? = some (.cells (us.map eI))) (hN : us.length = N) (ha : us.length < 2 ^ 60) : CallsAt En g0 127 [.arr id 0 N N 1, .fn (.func 126) []] (.p (.bool (us.any (· != 1)))) g0 := by
 subst hN
 exact containsU_ok hid ha
theorem rd_one (a : Int) : Rd eInt (.sl [[.p (.int .i64 a)]] .exact) [a] := .sl [a] _
set_option maxRecDepth 20000 in
theorem check_ok (t : Tree) (ht : t.ok) {tb : Node → Bool} {yb : TNode → Bool} {ab : ANode → Bool} (h1 : ∀ n, n ∈ t.nodes.l → Pure En 122 [.agg (n.enc.map .p)] (.p (.bool (tb n)))) (h2 : ∀ n, n ∈ t.types.l → Pure En 124 [.agg (n.enc.map .p)] (.p (.bool (yb n)))) (h3 : ∀ n, n ∈ t.aliases.l → Pure En 125 [.p (.str n.name)] (.p (.bool (ab n)))) : Pure En 98 [.agg (t.enc.map .p)] (.p (.int .i64 (checkP tb yb ab t))) := by
 have k1 := ht.nodes
 have k2 := ht.types
 have k3 := ht.aliases
 refine pure_walk [(0, .agg (t.enc.map .p))] Tryz.func98 rfl rfl rfl fun g hwo hwt => ?_
 show Wc En _ (Tryz.f98.body.getD .skip) [] (Sx 125 _ _ _ _ _ _)
 unfold Tryz.f98
 simp only [Option.getD_some]
 rw [← G.ext_nil g]
 refine wc_seq (wc_reg fun K hK => ?_)
 refine x_box rfl rfl rfl rfl rfl ?_
 refine x_assign rfl rfl rfl ?_
 refine x_nil (hK _ ?_); clear hK K
 refine go_seq (wc_seq (wc_seq (wc_reg fun K hK => ?_)))
 refine x_fa rfl rfl rfl fld158_0 rfl ?_
 refine x_ldL rfl rfl rfl isag154 rfl rfl ?_
 refine x_len rfl rfl rfl (by first | assumption | exact Rd.enc) und154 ?_
 refine x_bin rfl rfl rfl rfl rfl ?_
 refine x_moveS rfl rfl rfl (fun hg16 => ?_) (fun hg16 => ?_)
 ·have hz : t.nodes.l.length = 0 := by simp only [beq_iff_eq] at hg16; omega
  refine x_skip rfl rfl ?_
  refine x_skip rfl rfl ?_
  refine x_skip rfl rfl ?_
  refine x_skip rfl rfl ?_
  refine x_pickT rfl rfl rfl rfl ?_
  refine x_move rfl rfl rfl ?_
  refine x_skip rfl rfl ?_
  refine x_skip rfl rfl ?_
  refine x_skip rfl rfl ?_
  refine x_skip rfl rfl ?_
  refine x_pickT rfl rfl rfl rfl ?_
  refine x_nil (hK _ ?_); clear hK K
  refine go_seq ?_
  refine xc_cond true rfl (fun _ => ?_) (fun h => by cases h)
  refine wc_seq (wc_reg fun K hK => ?_)
  refine x_assign rfl rfl rfl ?_
  refine x_nil (hK _ ?_); clear hK K
  refine go_seq (wc_ret (go_seq_ret ?_))
  exact x_end1 (Or.inr rfl) rfl rfl rfl rfl rfl rfl (ieq (by unfold checkP; rw [if_pos (by omega)]))
 ·have hz : ¬ t.nodes.l.length = 0 := by simp only [beq_eq_false_iff_ne, ne_eq] at hg16; omega
  refine x_fa rfl rfl rfl fld158_0 rfl ?_
  refine x_ldL rfl rfl rfl isag154 rfl rfl ?_
  refine x_len rfl rfl rfl (by first | assumption | exact Rd.enc) und154 ?_
  refine x_bin rfl rfl rfl rfl rfl ?_
  refine x_pickF rfl rfl rfl rfl ?_
  refine x_moveS rfl rfl rfl (fun hg22 => ?_) (fun hg22 => ?_)
  ·refine x_skip rfl rfl ?_
   refine x_skip rfl rfl ?_
   refine x_skip rfl rfl ?_
   refine x_skip rfl rfl ?_
   refine x_pickT rfl rfl rfl rfl ?_
   refine x_nil (hK _ ?_); clear hK K
   refine go_seq ?_
   refine xc_cond true rfl (fun _ => ?_) (fun h => by cases h)
   refine wc_seq (wc_reg fun K hK => ?_)
   refine x_assign rfl rfl rfl ?_
   refine x_nil (hK _ ?_); clear hK K
   refine go_seq (wc_ret (go_seq_ret ?_))
   exact x_end1 (Or.inr rfl) rfl rfl rfl rfl rfl rfl (ieq (by unfold checkP; rw [if_pos (by simp at hg22; omega)]))
  ·refine x_fa rfl rfl rfl fld158_1 rfl ?_
   refine x_ldL rfl rfl rfl isag155 rfl rfl ?_
   refine x_len rfl rfl rfl (by first | assumption | exact Rd.enc) und155 ?_
   refine x_bin rfl rfl rfl rfl rfl ?_
   refine x_pickF rfl rfl rfl rfl ?_
   refine x_nil (hK _ ?_); clear hK K
   refine go_seq ?_
   refine xc_cond _ rfl (fun hc0 => ?_) (fun hc0 => ?_)
   ·refine wc_seq (wc_reg fun K hK => ?_)
    refine x_assign rfl rfl rfl ?_
    refine x_nil (hK _ ?_); clear hK K
    refine go_seq (wc_ret (go_seq_ret ?_))
    exact x_end1 (Or.inr rfl) rfl rfl rfl rfl rfl rfl (ieq (by unfold checkP; rw [if_pos (by simp at hc0; omega)]))
   ·have hbig : ¬(t.nodes.l.length = 0 ∨ 65536 < t.nodes.l.length ∨ 65536 < t.types.l.length) := by simp at hg22 hc0; omega
    have he : checkP tb yb ab t = c1 yb ab t (nodesP tb t.types.l.length 0 (List.replicate t.nodes.l.length 0) (List.replicate t.types.l.length 0) (t.nodes.l.drop 0)) := by unfold checkP; rw [if_neg hbig]; rfl
    refine wc_skip (go_seq (wc_seq ?_))
    refine xc_drwPX (σ := Bool) (.seg [0] (.adr 1 [(7, false)] (.adr 2 [(7, false)] (.seg [4] (.adr 5 [(3, false)] (.adr 6 [(3, false)] (.two 3 7 (.seg [7, 8, 9] .fin) (.seg [3, 8, 9] .fin)))))))) mixed (by kernel_rfl) [(1, _)] [(1, _)] (fun sw : Bool => [(3, .arr (g.objs.length + ti sw) 0 t.nodes.l.length t.nodes.l.length 1), (4, .arr (g.objs.length + vi sw) 0 t.types.l.length t.types.l.length 1)]) (fun sw : Bool => g.ext (twoO sw (List.replicate t.nodes.l.length 0) (List.replicate t.types.l.length 0)) []) (fun sw : Bool => True) (by repeat first | exact trivial | refine .intro rfl ?_) (by repeat first | exact trivial | refine .intro rfl ?_) (fun K hK => ?_) ?_
    ·refine pl_seg ?_
     refine x_fa rfl rfl rfl fld158_0 rfl ?_
     refine pl_end ?_
     refine pl_adr rfl ?_
     refine x_ldL rfl rfl rfl isag154 rfl rfl ?_
     refine pl_end ?_
     refine pl_adr rfl ?_
     refine x_len rfl rfl rfl (by first | assumption | exact Rd.enc) und154 ?_
     refine pl_end ?_
     refine pl_seg ?_
     refine x_fa rfl rfl rfl fld158_1 rfl ?_
     refine pl_end ?_
     refine pl_adr rfl ?_
     refine x_ldL rfl rfl rfl isag155 rfl rfl ?_
     refine pl_end ?_
     refine pl_adr rfl ?_
     refine x_len rfl rfl rfl (by first | assumption | exact Rd.enc) und155 ?_
     refine pl_end ?_
     refine pl_two ?_ ?_
     ·refine x_mkslice rfl rfl rfl rfl el178 zero3 inf3 rfl (by omega) (by omega) ?_
      refine pl_end ?_
      refine pl_seg ?_
      refine x_mkslice rfl rfl rfl rfl el178 zero3 inf3 rfl (by omega) (by omega) ?_
      refine x_assign rfl rfl rfl ?_
      refine x_assign rfl rfl rfl ?_
      refine pl_end ?_
      refine pl_fin ?_
      exact hK false _ _ _ _ _ trivial (by repeat first | exact trivial | refine .intro rfl ?_) (by repeat first | exact trivial | refine .intro rfl ?_) two_start
     ·refine x_mkslice rfl rfl rfl rfl el178 zero3 inf3 rfl (by omega) (by omega) ?_
      refine pl_end ?_
      refine pl_seg ?_
      refine x_mkslice rfl rfl rfl rfl el178 zero3 inf3 rfl (by omega) (by omega) ?_
      refine x_assign rfl rfl rfl ?_
      refine x_assign rfl rfl rfl ?_
      refine pl_end ?_
      refine pl_fin ?_
      exact hK true _ _ _ _ _ trivial (by repeat first | exact trivial | refine .intro rfl ?_) (by repeat first | exact trivial | refine .intro rfl ?_) two_start'
    rintro sw b rb _
    refine go_seq (wc_seq (wc_seq (wc_reg fun K hK => ?_)))
    refine x_fa rfl rfl rfl fld158_0 rfl ?_
    refine x_ldL rfl rfl rfl isag154 rfl rfl ?_
    refine x_len rfl rfl rfl (by first | assumption | exact Rd.enc) und154 ?_
    refine x_move rfl rfl rfl ?_
    refine x_nil (hK _ ?_); clear hK K
    refine go_seq (wc_block ?_)
    refine xc_loopG [(1, _), (3, _), (4, _), (37, _), (38, _)] [(1, _)] (fun x : Nat × List Int × List Int => [(39, .p (.int .i64 x.1))]) (fun x : Nat × List Int × List Int => []) (fun x : Nat × List Int × List Int => g.ext (twoO sw x.2.1 x.2.2) []) (fun x : Nat × List Int × List Int => x.1 ≤ t.nodes.l.length ∧ x.2.1.length = t.nodes.l.length ∧ x.2.2.length = t.types.l.length ∧ checkP tb yb ab t = c1 yb ab t (nodesP tb t.types.l.length x.1 x.2.1 x.2.2 (t.nodes.l.drop x.1))) (fun x : Nat × List Int × List Int => t.nodes.l.length - x.1) (0, List.replicate t.nodes.l.length 0, List.replicate t.types.l.length 0) (by repeat first | exact trivial | refine .intro rfl ?_) (by repeat first | exact trivial | refine .intro rfl ?_) rfl ⟨Nat.zero_le _, by simp, by simp, he⟩ ?_
    rintro ⟨k, us, vs⟩ R hR1 hR2 ⟨hj, hl, hv, he⟩ b rb
    dsimp only at hj hl hv he ⊢
    refine wc_seq (wc_reg fun K hK => ?_)
    refine x_bin rfl rfl rfl rfl rfl ?_
    refine x_nil (hK _ ?_); clear hK K
    refine go_seq (wc_seq ?_)
    refine xc_cond _ rfl (fun hc1 => ?_) (fun hc1 => ?_)
    ·have hlt : k < t.nodes.l.length := by simp at hc1; omega
     obtain ⟨n, e1⟩ : ∃ n, t.nodes.l[k]? = some n := ⟨_, List.getElem?_eq_getElem hlt⟩
     have hm : n ∈ t.nodes.l := List.mem_of_getElem? e1
     refine wc_skip (go_seq (wc_seq (wc_block (wc_seq (wc_reg fun K hK => ?_)))))
     refine x_move rfl rfl rfl ?_
     refine x_ia rfl rfl rfl (by first | assumption | exact Rd.enc) rfl und154 sz153 rfl (by assumption) rfl ?_
     refine x_ldRA rfl rfl rfl isag153 sz153 rfl ?_
     refine x_alloc rfl rfl rfl zero153 rfl ?_
     refine x_assign rfl rfl rfl ?_
     refine x_stL rfl rfl rfl sz153 rfl rfl rfl rfl ?_
     refine x_nil (hK _ ?_); clear hK K
     refine go_seq (wc_seq (wc_reg fun K hK => ?_))
     refine x_ldLA rfl rfl rfl isag153 sz153 rfl rfl ?_
     refine x_call rfl rfl rfl (by repeat (first | exact ho_nil | refine ho_cons (by first | rfl | exact rd_ho (by assumption)) ?_)) okf122 (h1 _ hm _) ?_
     refine x_not rfl rfl rfl ?_
     refine x_moveS rfl rfl rfl (fun hg47 => ?_) (fun hg47 => ?_)
     ·refine x_skip rfl rfl ?_
      refine x_skip rfl rfl ?_
      refine x_skip rfl rfl ?_
      refine x_skip rfl rfl ?_
      refine x_skip rfl rfl ?_
      refine x_skip rfl rfl ?_
      refine x_pickT rfl rfl rfl rfl ?_
      refine x_move rfl rfl rfl ?_
      refine x_skip rfl rfl ?_
      refine x_skip rfl rfl ?_
      refine x_skip rfl rfl ?_
      refine x_skip rfl rfl ?_
      refine x_skip rfl rfl ?_
      refine x_skip rfl rfl ?_
      refine x_skip rfl rfl ?_
      refine x_skip rfl rfl ?_
      refine x_pickT rfl rfl rfl rfl ?_
      refine x_nil (hK _ ?_); clear hK K
      refine go_seq ?_
      refine xc_cond true rfl (fun _ => ?_) (fun h => by cases h)
      refine wc_seq (wc_reg fun K hK => ?_)
      refine x_assign rfl rfl rfl ?_
      refine x_nil (hK _ ?_); clear hK K
      refine go_seq (wc_ret (go_blk_ret (go_seq_ret ?_)))
      refine hR2 _ _ (by simp) ?_
      refine go_blk_ret (go_seq_ret ?_)
      exact x_end1 (Or.inr rfl) rfl rfl rfl rfl rfl rfl (ieq (by rw [he, nodesP_at hlt e1, if_neg (by intro hh; simp_all)]; rfl))
     ·refine x_move rfl rfl rfl ?_
      refine x_fa rfl rfl rfl fld153_6 rfl ?_
      refine x_ldL rfl rfl rfl isag27 rfl rfl ?_
      refine x_move rfl rfl rfl ?_
      refine x_callM rfl rfl rfl (by repeat (first | exact ho_nil | refine ho_cons (by first | rfl | exact rd_ho (by assumption)) ?_)) okf123 (note_t hwo hwt hl Rd.enc (ht.kids _ hm).1 (by omega)) ?_
      refine x_not rfl rfl rfl ?_
      refine x_pickF rfl rfl rfl rfl ?_
      refine x_moveS rfl rfl rfl (fun hg55 => ?_) (fun hg55 => ?_)
      ·refine x_skip rfl rfl ?_
       refine x_skip rfl rfl ?_
       refine x_skip rfl rfl ?_
       refine x_skip rfl rfl ?_
       refine x_skip rfl rfl ?_
       refine x_skip rfl rfl ?_
       refine x_skip rfl rfl ?_
       refine x_skip rfl rfl ?_
       refine x_pickT rfl rfl rfl rfl ?_
       refine x_nil (hK _ ?_); clear hK K
       refine go_seq ?_
       refine xc_cond true rfl (fun _ => ?_) (fun h => by cases h)
       refine wc_seq (wc_reg fun K hK => ?_)
       refine x_assign rfl rfl rfl ?_
       refine x_nil (hK _ ?_); clear hK K
       refine go_seq (wc_ret (go_blk_ret (go_seq_ret ?_)))
       refine hR2 _ _ (by simp) ?_
       refine go_blk_ret (go_seq_ret ?_)
       exact x_end1 (Or.inr rfl) rfl rfl rfl rfl rfl rfl (ieq (by rw [he, nodesP_at hlt e1, if_neg (by intro hh; simp_all)]; rfl))
      ·refine x_move rfl rfl rfl ?_
       refine x_fa rfl rfl rfl fld153_7 rfl ?_
       refine x_ldL rfl rfl rfl isag27 rfl rfl ?_
       refine x_fa rfl rfl rfl fld158_1 rfl ?_
       refine x_ldL rfl rfl rfl isag155 rfl rfl ?_
       refine x_len rfl rfl rfl (by first | assumption | exact Rd.enc) und155 ?_
       refine x_callM rfl rfl rfl (by repeat (first | exact ho_nil | refine ho_cons (by first | rfl | exact rd_ho (by assumption)) ?_)) okf123 (note_v hwo hwt hv Rd.enc (ht.kids _ hm).2 (by omega)) ?_
       refine x_not rfl rfl rfl ?_
       refine x_pickF rfl rfl rfl rfl ?_
       refine x_nil (hK _ ?_); clear hK K
       refine go_seq ?_
       refine xc_cond _ rfl (fun hc2 => ?_) (fun hc2 => ?_)
       ·refine wc_seq (wc_reg fun K hK => ?_)
        refine x_assign rfl rfl rfl ?_
        refine x_nil (hK _ ?_); clear hK K
        refine go_seq (wc_ret (go_blk_ret (go_seq_ret ?_)))
        refine hR2 _ _ (by simp) ?_
        refine go_blk_ret (go_seq_ret ?_)
        exact x_end1 (Or.inr rfl) rfl rfl rfl rfl rfl rfl (ieq (by rw [he, nodesP_at hlt e1, if_neg (by intro hh; simp_all)]; rfl))
       ·refine wc_skip (go_blk (go_seq (wc_reg fun K hK => ?_)))
        refine x_inc rfl rfl rfl rfl (by omega) ?_
        refine x_move rfl rfl rfl ?_
        refine x_nil (hK _ ?_); clear hK K
        exact hR1 (k + 1, (noteP us k n.kids.l).2, (noteP vs t.types.l.length n.types.l).2) _ _ _ _ _ ⟨hlt, by show (noteP us k n.kids.l).2.length = _; rw [noteP_len]; exact hl, by show (noteP vs t.types.l.length n.types.l).2.length = _; rw [noteP_len]; exact hv, by rw [he, nodesP_at hlt e1, if_pos ⟨by simpa using hg47, by simpa using hg55, by simpa using hc2⟩]⟩ (by show t.nodes.l.length - (k + 1) < t.nodes.l.length - k; omega) (by repeat first | exact trivial | refine .intro rfl ?_) (by repeat first | exact trivial | refine .intro rfl ?_) rfl
    ·have hge : t.nodes.l.length ≤ k := by simp at hc1; omega
     have he2 : checkP tb yb ab t = c2 ab t us (typesP yb 0 vs (t.types.l.drop 0)) := by rw [he, List.drop_eq_nil_of_le hge]; rfl
     refine wc_exit ?_
     refine go_seq_exit ?_
     refine hR2 _ _ (by simp) ?_
     refine go_blk_exit (go_seq (wc_seq (wc_seq (wc_reg fun K hK => ?_))))
     refine x_fa rfl rfl rfl fld158_1 rfl ?_
     refine x_ldL rfl rfl rfl isag155 rfl rfl ?_
     refine x_len rfl rfl rfl (by first | assumption | exact Rd.enc) und155 ?_
     refine x_move rfl rfl rfl ?_
     refine x_nil (hK _ ?_); clear hK K
     refine go_seq (wc_block ?_)
     refine xc_loopG [(1, _), (3, _), (4, _), (37, _), (38, _), (39, _), (67, _), (68, _)] [(1, _)] (fun x : Nat × List Int => [(69, .p (.int .i64 x.1))]) (fun x : Nat × List Int => []) (fun x : Nat × List Int => g.ext (twoO sw us x.2) []) (fun x : Nat × List Int => x.1 ≤ t.types.l.length ∧ x.2.length = t.types.l.length ∧ checkP tb yb ab t = c2 ab t us (typesP yb x.1 x.2 (t.types.l.drop x.1))) (fun x : Nat × List Int => t.types.l.length - x.1) (0, vs) (by repeat first | exact trivial | refine .intro rfl ?_) (by repeat first | exact trivial | refine .intro rfl ?_) rfl ⟨Nat.zero_le _, hv, he2⟩ ?_
     rintro ⟨k1, vs1⟩ R hR1 hR2 ⟨hj1, hv, he3⟩ b rb
     dsimp only at hj1 hv he3 ⊢
     refine wc_seq (wc_reg fun K hK => ?_)
     refine x_bin rfl rfl rfl rfl rfl ?_
     refine x_nil (hK _ ?_); clear hK K
     refine go_seq (wc_seq ?_)
     refine xc_cond _ rfl (fun hc3 => ?_) (fun hc3 => ?_)
     ·have hlt : k1 < t.types.l.length := by simp at hc3; omega
      obtain ⟨n, e1⟩ : ∃ n, t.types.l[k1]? = some n := ⟨_, List.getElem?_eq_getElem hlt⟩
      have hm : n ∈ t.types.l := List.mem_of_getElem? e1
      refine wc_skip (go_seq (wc_seq (wc_block (wc_seq (wc_reg fun K hK => ?_)))))
      refine x_move rfl rfl rfl ?_
      refine x_ia rfl rfl rfl (by first | assumption | exact Rd.enc) rfl und155 sz150 rfl (by assumption) rfl ?_
      refine x_ldRA rfl rfl rfl isag150 sz150 rfl ?_
      refine x_alloc rfl rfl rfl zero150 rfl ?_
      refine x_assign rfl rfl rfl ?_
      refine x_stL rfl rfl rfl sz150 rfl rfl rfl rfl ?_
      refine x_nil (hK _ ?_); clear hK K
      refine go_seq (wc_seq (wc_reg fun K hK => ?_))
      refine x_ldLA rfl rfl rfl isag150 sz150 rfl rfl ?_
      refine x_call rfl rfl rfl (by repeat (first | exact ho_nil | refine ho_cons (by first | rfl | exact rd_ho (by assumption)) ?_)) okf124 (h2 _ hm _) ?_
      refine x_not rfl rfl rfl ?_
      refine x_moveS rfl rfl rfl (fun hg77 => ?_) (fun hg77 => ?_)
      ·refine x_skip rfl rfl ?_
       refine x_skip rfl rfl ?_
       refine x_skip rfl rfl ?_
       refine x_skip rfl rfl ?_
       refine x_skip rfl rfl ?_
       refine x_skip rfl rfl ?_
       refine x_pickT rfl rfl rfl rfl ?_
       refine x_nil (hK _ ?_); clear hK K
       refine go_seq ?_
       refine xc_cond true rfl (fun _ => ?_) (fun h => by cases h)
       refine wc_seq (wc_reg fun K hK => ?_)
       refine x_assign rfl rfl rfl ?_
       refine x_nil (hK _ ?_); clear hK K
       refine go_seq (wc_ret (go_blk_ret (go_seq_ret ?_)))
       refine hR2 _ _ (by simp) ?_
       refine go_blk_ret (go_seq_ret ?_)
       exact x_end1 (Or.inr rfl) rfl rfl rfl rfl rfl rfl (ieq (by rw [he3, typesP_at hlt e1, if_neg (by intro hh; simp_all)]; rfl))
      ·refine x_move rfl rfl rfl ?_
       refine x_fa rfl rfl rfl fld150_4 rfl ?_
       refine x_ldL rfl rfl rfl isag27 rfl rfl ?_
       refine x_move rfl rfl rfl ?_
       refine x_callM rfl rfl rfl (by repeat (first | exact ho_nil | refine ho_cons (by first | rfl | exact rd_ho (by assumption)) ?_)) okf123 (note_v hwo hwt hv Rd.enc (ht.tkids _ hm) (by omega)) ?_
       refine x_not rfl rfl rfl ?_
       refine x_pickF rfl rfl rfl rfl ?_
       refine x_nil (hK _ ?_); clear hK K
       refine go_seq ?_
       refine xc_cond _ rfl (fun hc4 => ?_) (fun hc4 => ?_)
       ·refine wc_seq (wc_reg fun K hK => ?_)
        refine x_assign rfl rfl rfl ?_
        refine x_nil (hK _ ?_); clear hK K
        refine go_seq (wc_ret (go_blk_ret (go_seq_ret ?_)))
        refine hR2 _ _ (by simp) ?_
        refine go_blk_ret (go_seq_ret ?_)
        exact x_end1 (Or.inr rfl) rfl rfl rfl rfl rfl rfl (ieq (by rw [he3, typesP_at hlt e1, if_neg (by intro hh; simp_all)]; rfl))
       ·refine wc_skip (go_blk (go_seq (wc_reg fun K hK => ?_)))
        refine x_inc rfl rfl rfl rfl (by omega) ?_
        refine x_move rfl rfl rfl ?_
        refine x_nil (hK _ ?_); clear hK K
        exact hR1 (k1 + 1, (noteP vs1 k1 n.kids.l).2) _ _ _ _ _ ⟨hlt, by show (noteP vs1 k1 n.kids.l).2.length = _; rw [noteP_len]; exact hv, by rw [he3, typesP_at hlt e1, if_pos ⟨by simpa using hg77, by simpa using hc4⟩]⟩ (by show t.types.l.length - (k1 + 1) < t.types.l.length - k1; omega) (by repeat first | exact trivial | refine .intro rfl ?_) (by repeat first | exact trivial | refine .intro rfl ?_) rfl
     ·have hge1 : t.types.l.length ≤ k1 := by simp at hc3; omega
      have he4 : checkP tb yb ab t = c3 t us (aliasP ab t.types.l.length vs1 (t.aliases.l.drop 0)) := by rw [he3, List.drop_eq_nil_of_le hge1]; rfl
      refine wc_exit ?_
      refine go_seq_exit ?_
      refine hR2 _ _ (by simp) ?_
      refine go_blk_exit (go_seq (wc_seq (wc_seq (wc_reg fun K hK => ?_))))
      refine x_fa rfl rfl rfl fld158_2 rfl ?_
      refine x_ldL rfl rfl rfl isag156 rfl rfl ?_
      refine x_len rfl rfl rfl (by first | assumption | exact Rd.enc) und156 ?_
      refine x_move rfl rfl rfl ?_
      refine x_nil (hK _ ?_); clear hK K
      refine go_seq (wc_block ?_)
      refine xc_loopG [(1, _), (3, _), (4, _), (37, _), (38, _), (39, _), (67, _), (68, _), (69, _), (87, _), (88, _)] [(1, _)] (fun x : Nat × List Int => [(89, .p (.int .i64 x.1))]) (fun x : Nat × List Int => []) (fun x : Nat × List Int => g.ext (twoO sw us x.2) []) (fun x : Nat × List Int => x.1 ≤ t.aliases.l.length ∧ x.2.length = t.types.l.length ∧ checkP tb yb ab t = c3 t us (aliasP ab t.types.l.length x.2 (t.aliases.l.drop x.1))) (fun x : Nat × List Int => t.aliases.l.length - x.1) (0, vs1) (by repeat first | exact trivial | refine .intro rfl ?_) (by repeat first | exact trivial | refine .intro rfl ?_) rfl ⟨Nat.zero_le _, hv, he4⟩ ?_
      rintro ⟨k2, vs2⟩ R hR1 hR2 ⟨hj2, hv, he5⟩ b rb
      dsimp only at hj2 hv he5 ⊢
      refine wc_seq (wc_reg fun K hK => ?_)
      refine x_bin rfl rfl rfl rfl rfl ?_
      refine x_nil (hK _ ?_); clear hK K
      refine go_seq (wc_seq ?_)
      refine xc_cond _ rfl (fun hc5 => ?_) (fun hc5 => ?_)
      ·have hlt : k2 < t.aliases.l.length := by simp at hc5; omega
       obtain ⟨n, e1⟩ : ∃ n, t.aliases.l[k2]? = some n := ⟨_, List.getElem?_eq_getElem hlt⟩
       have hm : n ∈ t.aliases.l := List.mem_of_getElem? e1
       refine wc_skip (go_seq (wc_seq (wc_block (wc_seq (wc_reg fun K hK => ?_)))))
       refine x_ia rfl rfl rfl (by first | assumption | exact Rd.enc) rfl und156 sz183 rfl (by assumption) rfl ?_
       refine x_ldRA rfl rfl rfl isag183 sz183 rfl ?_
       refine x_alloc rfl rfl rfl zero183 rfl ?_
       refine x_stL rfl rfl rfl sz183 rfl rfl rfl rfl ?_
       refine x_nil (hK _ ?_); clear hK K
       refine go_seq (wc_seq (wc_reg fun K hK => ?_))
       refine x_fa rfl rfl rfl fld183_0 rfl ?_
       refine x_ldL rfl rfl rfl isag9 rfl rfl ?_
       refine x_call rfl rfl rfl (by repeat (first | exact ho_nil | refine ho_cons (by first | rfl | exact rd_ho (by assumption)) ?_)) okf125 (h3 _ hm _) ?_
       refine x_not rfl rfl rfl ?_
       refine x_moveS rfl rfl rfl (fun hg97 => ?_) (fun hg97 => ?_)
       ·refine x_skip rfl rfl ?_
        refine x_skip rfl rfl ?_
        refine x_skip rfl rfl ?_
        refine x_skip rfl rfl ?_
        refine x_skip rfl rfl ?_
        refine x_skip rfl rfl ?_
        refine x_skip rfl rfl ?_
        refine x_skip rfl rfl ?_
        refine x_skip rfl rfl ?_
        refine x_pickT rfl rfl rfl rfl ?_
        refine x_nil (hK _ ?_); clear hK K
        refine go_seq ?_
        refine xc_cond true rfl (fun _ => ?_) (fun h => by cases h)
        refine wc_seq (wc_reg fun K hK => ?_)
        refine x_assign rfl rfl rfl ?_
        refine x_nil (hK _ ?_); clear hK K
        refine go_seq (wc_ret (go_blk_ret (go_seq_ret ?_)))
        refine hR2 _ _ (by simp) ?_
        refine go_blk_ret (go_seq_ret ?_)
        exact x_end1 (Or.inr rfl) rfl rfl rfl rfl rfl rfl (ieq (by rw [he5, aliasP_at hlt e1, if_neg (by intro hh; simp_all)]; rfl))
       ·refine x_move rfl rfl rfl ?_
        refine x_fa rfl rfl rfl fld183_1 rfl ?_
        refine x_ldL rfl rfl rfl isag3 rfl rfl ?_
        refine x_bs rfl rfl rfl el27 sz3 zero3 rfl rfl rfl ?_
        refine x_fa rfl rfl rfl fld158_1 rfl ?_
        refine x_ldL rfl rfl rfl isag155 rfl rfl ?_
        refine x_len rfl rfl rfl (by first | assumption | exact Rd.enc) und155 ?_
        refine x_callM rfl rfl rfl (by repeat (first | exact ho_nil | refine ho_cons (by first | rfl | exact rd_ho (by assumption)) ?_)) okf123 (note_v hwo hwt hv (rd_one _) (by simp) (by omega)) ?_
        refine x_not rfl rfl rfl ?_
        refine x_pickF rfl rfl rfl rfl ?_
        refine x_nil (hK _ ?_); clear hK K
        refine go_seq ?_
        refine xc_cond _ rfl (fun hc6 => ?_) (fun hc6 => ?_)
        ·refine wc_seq (wc_reg fun K hK => ?_)
         refine x_assign rfl rfl rfl ?_
         refine x_nil (hK _ ?_); clear hK K
         refine go_seq (wc_ret (go_blk_ret (go_seq_ret ?_)))
         refine hR2 _ _ (by simp) ?_
         refine go_blk_ret (go_seq_ret ?_)
         exact x_end1 (Or.inr rfl) rfl rfl rfl rfl rfl rfl (ieq (by rw [he5, aliasP_at hlt e1, if_neg (by intro hh; simp_all)]; rfl))
        ·refine wc_skip (go_blk (go_seq (wc_reg fun K hK => ?_)))
         refine x_inc rfl rfl rfl rfl (by omega) ?_
         refine x_move rfl rfl rfl ?_
         refine x_nil (hK _ ?_); clear hK K
         exact hR1 (k2 + 1, (noteP vs2 t.types.l.length [n.type]).2) _ _ _ _ _ ⟨hlt, by show (noteP vs2 t.types.l.length [n.type]).2.length = _; rw [noteP_len]; exact hv, by rw [he5, aliasP_at hlt e1, if_pos ⟨by simpa using hg97, by simpa using hc6⟩]⟩ (by show t.aliases.l.length - (k2 + 1) < t.aliases.l.length - k2; omega) (by repeat first | exact trivial | refine .intro rfl ?_) (by repeat first | exact trivial | refine .intro rfl ?_) rfl
      ·have hge2 : t.aliases.l.length ≤ k2 := by simp at hc5; omega
       have he6 : checkP tb yb ab t = c3 t us (some vs2) := by rw [he5, List.drop_eq_nil_of_le hge2]; rfl
       have hN1 : 1 ≤ t.nodes.l.length := by omega
       refine wc_exit ?_
       refine go_seq_exit ?_
       refine hR2 _ _ (by simp) ?_
       refine go_blk_exit (go_seq (wc_seq (wc_reg fun K hK => ?_)))
       refine x_move rfl rfl rfl ?_
       refine x_move rfl rfl rfl ?_
       refine x_lenA rfl rfl rfl und178 ?_
       refine x_sub rfl rfl rfl rfl (by omega) (by omega) ?_
       refine x_iaA rfl rfl rfl rfl und178 sz3 rfl (by omega) (by omega) ?_
       refine x_ldO rfl rfl rfl isag3 two_t (getI (by omega) (by omega)) ?_
       refine x_bin rfl rfl rfl rfl rfl ?_
       refine x_iaA rfl rfl rfl rfl und178 sz3 rfl (by omega) (by omega) ?_
       refine x_stO rfl rfl rfl sz3 rfl rfl two_t (by simp; omega) ?_
       refine x_nil (hK _ ?_); clear hK K
       refine go_seq (wc_seq (wc_reg fun K hK => ?_))
       rw [show (us.map eI).set (0 + ((t.nodes.l.length : Int) - 1).toNat * 1) (V.p (.int .i64 (IntKind.i64.wrap (us.getD ((t.nodes.l.length : Int) - 1).toNat 0 + 1)))) = (upI us ((t.nodes.l.length : Int) - 1)).map eI from upI_map (by omega) (by omega), two_st hwo]
       refine x_assign rfl rfl rfl ?_
       refine x_nil (hK _ ?_); clear hK K
       refine go_seq (wc_seq (wc_seq (wc_reg fun K hK => ?_)))
       refine x_move rfl rfl rfl ?_
       refine x_move rfl rfl rfl ?_
       refine x_call rfl rfl rfl (by repeat (first | exact ho_nil | refine ho_cons (by first | rfl | exact rd_ho (by assumption)) ?_)) okf127 (containsU_at two_t (by simp [upI, hl]) (by simp [upI, hl]; omega)) ?_
       refine x_moveS rfl rfl rfl (fun hg120 => ?_) (fun hg120 => ?_)
       ·refine x_skip rfl rfl ?_
        refine x_skip rfl rfl ?_
        refine x_skip rfl rfl ?_
        refine x_pickT rfl rfl rfl rfl ?_
        refine x_nil (hK _ ?_); clear hK K
        refine go_seq ?_
        refine xc_cond true rfl (fun _ => ?_) (fun h => by cases h)
        refine wc_seq (wc_reg fun K hK => ?_)
        refine x_assign rfl rfl rfl ?_
        refine x_nil (hK _ ?_); clear hK K
        refine go_seq (wc_ret (go_seq_ret ?_))
        exact x_end1 (Or.inr rfl) rfl rfl rfl rfl rfl rfl (ieq (by rw [he6]; simp only [c3, hg120, Bool.true_or, if_true]))
       ·refine x_move rfl rfl rfl ?_
        refine x_move rfl rfl rfl ?_
        refine x_call rfl rfl rfl (by repeat (first | exact ho_nil | refine ho_cons (by first | rfl | exact rd_ho (by assumption)) ?_)) okf127 (containsU_at two_v hv (by omega)) ?_
        refine x_pickF rfl rfl rfl rfl ?_
        refine x_nil (hK _ ?_); clear hK K
        refine go_seq ?_
        refine xc_cond _ rfl (fun hc7 => ?_) (fun hc7 => ?_)
        ·refine wc_seq (wc_reg fun K hK => ?_)
         refine x_assign rfl rfl rfl ?_
         refine x_nil (hK _ ?_); clear hK K
         refine go_seq (wc_ret (go_seq_ret ?_))
         exact x_end1 (Or.inr rfl) rfl rfl rfl rfl rfl rfl (ieq (by rw [he6]; simp only [c3, hg120, hc7, Bool.or_true, if_true]))
        ·refine wc_skip (go_seq (wc_seq (wc_reg fun K hK => ?_)))
         refine x_assign rfl rfl rfl ?_
         refine x_nil (hK _ ?_); clear hK K
         refine go_seq (wc_ret ?_)
         exact x_end1 (Or.inr rfl) rfl rfl rfl rfl rfl rfl (ieq (by rw [he6]; simp only [c3, hg120, hc7, Bool.or_self]; rfl))
end Go.Vm
set_option linter.unusedVariables false
namespace Go.Vm
open Go
section
variable {E : Env} {qt : Bool} {ops : Array Oper} {l : List Oper} {K : St → Prop}
variable {nt : Nat} {b : Nat → V} {L : List (Nat × V)} {rb : Nat → Option (Nat × List V)} {R : List (Nat × (Nat × List V))} {esc : Nat → Bool} {g : G} {os : List Ob} {ts : List Nat}
variable {d : Nat} {ty : TypeId} {pos : String} {after : Array Edge} {gd : Option (Nat × Bool)} {op : Op}
def placesU (E : Env) (t : TypeId) : Option (List (Nat × Nat)) := match E.P.underlying t with
 | some (.struct fs) => placesL E fs.toList
 | _ => none
theorem x_buildU {t : TypeId} {ps : Array (Nat × Operand)} {z cs : List V} {vs : List (Nat × V)} {pl : List (Nat × Nat)} (h : wX ops nt L gd = some true) (hd : Nat.blt d nt = true) (hz : zeroOf E t = some z) (hp : partsX E L ps.toList = some vs)
  (hl : placesU E t = some pl) (hc : fillIn (pl[·]?) z vs = some cs) (k : wpL E qt ops l (Sx nt b ((d, .agg cs) :: L) rb R esc g) K) :
  wpL E qt ops (⟨some d, .build t ps, ty, pos, after, gd⟩ :: l) (Sx nt b L rb R esc g) K := by
 unfold placesU at hl
 split at hl
 ·rename_i fs hu; exact x_build h hd hu hz hp hl hc k
 ·cases hl
theorem x_allocG {t : TypeId} {cs : List V} (h : wX ops nt L gd = some true) (hd : Nat.blt d nt = true) (he : esc d = false) (hz : zeroOf E t = some cs) (ho : cs.all one = true)
  (k : ∀ G : Nat, wpL E qt ops l (Sx nt b ((d, .loc d G 0) :: L) rb ((d, (G, cs)) :: R) esc g) K) :
  wpL E qt ops (⟨some d, .alloc t, ty, pos, after, gd⟩ :: l) (Sx nt b L rb R esc g) K := x_alloc h hd he hz ho (k _)
def accW (T n : Nat) : List (List V) → V
 | [] => .p .nilsl
 | r :: rs => .sl (r :: rs) (.own T (r :: rs).length n)
def accS (ts : List Nat) (i n m : Nat) : Option (List Nat) := match n with
 | 0 => if i = ts.length then some (ts ++ [m]) else none
 | n + 1 => if ts[i]? = some (n + 1) then some (ts.set i (n + 1 + m)) else none
theorem x_app {t u e : TypeId} {x y : Operand} {m by' i : Nat} {z : List V} {xs ys : List (List V)} {k' : SK} {ts' : List Nat} (h : wX ops nt L gd = some true) (hd : Nat.blt d nt = true) (hnb : esc d = false) (hwt : g.wt = g.toks.length) (hx : evX E L x = some (accW (g.toks.length + i) m xs)) (hy : evX E L y = some (.sl ys k'))
  (he : elemOf E t = some e) (hu : E.P.underlying u = some (.slice e)) (hz : zeroOf E e = some z) (hi : (E.P.info? e).map (fun i => (i.size, i.bytes)) = some (m, by')) (hm : (Nat.blt 0 m && Nat.blt 0 by' && Nat.beq z.length m && Nat.blt 0 ys.length) = true)
  (hxs : xs.all (rowOk m) = true) (hys : ys.all (rowOk m) = true) (hn : (xs.length + ys.length) * by' ≤ 2 ^ 47) (hts : accS ts i xs.length ys.length = some ts')
  (k : wpL E qt ops l (Sx nt b ((d, .sl (xs ++ ys) (.own (g.toks.length + i) (xs ++ ys).length m)) :: L) rb R esc (g.ext os ts')) K) :
  wpL E qt ops (⟨some d, .call { callee := .builtin .append, args := #[x, y], argTypes := #[t, u] }, ty, pos, after, gd⟩ :: l) (Sx nt b L rb R esc (g.ext os ts)) K := by
 simp only [Bool.and_eq_true] at hm
 obtain ⟨⟨⟨h1, h2⟩, h3⟩, h4⟩ := hm
 have h1 := blt h1
 have h2 := blt h2
 have h3 := Nat.eq_of_beq_eq_true h3
 have h4 := blt h4
 obtain ⟨inf, hinf, hie⟩ := Option.map_eq_some_iff.1 hi
 simp only [Prod.mk.injEq] at hie
 obtain ⟨rfl, rfl⟩ := hie
 refine x_op (s1 := Sx nt b L rb R esc g) h hd rfl ?_ k
 have a0 : (#[t, u] : Array TypeId)[0]? = some t := rfl
 have a1 : (#[t, u] : Array TypeId)[1]? = some u := rfl
 have hargs : evL E (Sx nt b L rb R esc (g.ext os ts)) [x, y] = some [accW (g.toks.length + i) inf.size xs, .sl ys k'] := by simp only [evL, evS hx, evS hy]
 have step : ∀ r, (Sx nt b L rb R esc (g.ext os ts)).append E (some d) e (accW (g.toks.length + i) inf.size xs) (.sl ys k') = some r →
   stepV E (Sx nt b L rb R esc (g.ext os ts)) ⟨some d, .call { callee := .builtin .append, args := #[x, y], argTypes := #[t, u] }, ty, pos, after, gd⟩ = some r := by
  intro r hr
  simp only [stepV, hargs, a0, a1, he, hu]
  exact hr
 refine step _ ?_
 cases ys with
 | nil => simp at h4
 | cons y0 ys =>
  have hrw : (Sx nt b L rb R esc (g.ext os ts)).rows inf.size (.sl (y0 :: ys) k') = some (y0 :: ys) := rfl
  have hok : ¬ (inf.size = 0 ∨ inf.bytes = 0 ∨ z.length ≠ inf.size ∨ ¬ (y0 :: ys).all (rowOk inf.size) = true) := by
   rw [hys]; simp only [not_true_eq_false, or_false]; omega
  cases xs with
  | nil =>
   simp only [List.length_nil, accS] at hts
   split at hts
   ·rename_i hi
    injection hts with hts
    subst hts hi
    rw [show accW (g.toks.length + ts.length) inf.size [] = .p .nilsl from rfl, append_nil (dst := some d) hinf hz hrw hnb hok (by simpa using hn)]
    simp [Sx, G.ext, accW]
   ·cases hts
  | cons x0 xs =>
   simp only [List.length_cons, accS] at hts
   split at hts
   ·rename_i hi
    injection hts with hts
    subst hts
    have htok : (Sx nt b L rb R esc (g.ext os ts)).g.toks[g.toks.length + i]? = some (x0 :: xs).length := by
     have := ext_tok (g := g) (os := os) (ts := ts) (i := i)
     rw [hi] at this
     exact this
    rw [show accW (g.toks.length + i) inf.size (x0 :: xs) = .sl (x0 :: xs) (.own (g.toks.length + i) (x0 :: xs).length inf.size) from rfl,
     append_own hinf hz hrw hok (by simpa using hn) hxs htok]
    have e1 : (g.toks ++ ts).set (g.toks.length + i) (xs.length + 1 + (ys.length + 1)) = g.toks ++ ts.set i (xs.length + 1 + (ys.length + 1)) := by
     rw [List.set_append_right _ _ (Nat.le_add_right _ _)]
     simp
    simp only [Sx, G.ext, accW, List.cons_append, List.length_cons, List.length_append, e1]
    rw [Nat.min_eq_left (by omega : g.wt ≤ g.toks.length + i), show xs.length + 1 + (ys.length + 1) = xs.length + (ys.length + 1) + 1 by omega]
   ·cases hts
theorem x_lenV {t e : TypeId} {y : Operand} {rows : List (List V)} {k' : SK} (h : wX ops nt L gd = some true) (hd : Nat.blt d nt = true) (hx : evX E L y = some (.sl rows k')) (hu : E.P.underlying t = some (.slice e))
  (k : wpL E qt ops l (Sx nt b ((d, .p (.int .i64 rows.length)) :: L) rb R esc g) K) : wpL E qt ops (⟨some d, .call { callee := .builtin .len, args := #[y], argTypes := #[t] }, ty, pos, after, gd⟩ :: l) (Sx nt b L rb R esc g) K :=
 wpl_len (wX_ok h) (blt hd) (evX_ok hx) hu rfl (by rw [ofL_upd]; exact k)
theorem x_iaS {t e : TypeId} {n : Nat} {p q : Operand} {rows : List (List V)} {k' : SK} {j : Nat} {r : List V} (h : wX ops nt L gd = some true) (hd : Nat.blt d nt = true) (hp : evX E L p = some (.sl rows k')) (hq : evX E L q = some (.p (.int .i64 j)))
  (hu : E.P.underlying t = some (.slice e)) (hz : sz E e = some n) (hn : Nat.beq n 0 = false) (hr : rows[j]? = some r) (hl : r.length = n)
  (k : wpL E qt ops l (Sx nt b ((d, .ref r) :: L) rb R esc g) K) : wpL E qt ops (⟨some d, .indexAddr t p q, ty, pos, after, gd⟩ :: l) (Sx nt b L rb R esc g) K := by
 refine x_op (s1 := Sx nt b L rb R esc g) h hd rfl ?_ k
 simp only [stepV, evS hp, evS hq, hu, hz]
 rw [if_neg (by omega), if_neg (fun e => by rw [e] at hn; cases hn)]
 simp only [Int.toNat_natCast, hr, hl, if_true]
end
section
variable {E : Env} {nt : Nat} {b : Nat → V} {L : List (Nat × V)} {rb : Nat → Option (Nat × List V)} {R : List (Nat × (Nat × List V))} {esc : Nat → Bool} {g : G}
theorem x_endC {e : X} {t i G' n : Nat} {ty : TypeId} {cs ds : List V} {r : V} {rs : List ResultVar} {g0 g2 : G} (he : e = .normal ∨ e = .ret) (hrs : rs = [.cell t ty]) (hv : getL L t = some (.loc i G' 0)) (hi : isag E ty = some true) (hz : sz E ty = some n) (hr : getR R i = some (G', cs)) (hc : take? cs 0 n = some ds)
  (hg : G.mk g.objs g.toks (min g0.wo g.wo) (min g0.wt g.wt) = g2) (hd : V.agg ds = r) :
  (e = .normal ∨ e = .ret) ∧ ∃ vs, resOf E (Sx nt b L rb R esc g) rs = some vs ∧ pack vs = r ∧ G.mk (Sx nt b L rb R esc g).g.objs (Sx nt b L rb R esc g).g.toks (min g0.wo (Sx nt b L rb R esc g).g.wo) (min g0.wt (Sx nt b L rb R esc g).g.wt) = g2 := by
 subst hrs
 refine ⟨he, [.agg ds], ?_, hd, hg⟩
 have : (Sx nt b L rb R esc g).tm t = .loc i G' 0 := getL_of hv
 have h2 : St.loadV E (Sx nt b L rb R esc g) ty (.loc i G' 0) = some (.agg ds) := ldLA hi hz (getR_of hr) hc
 simp only [resOf, this, h2]
end
end Go.Vm
set_option linter.unusedVariables false
namespace Go.Vm
open Go Go.Proofs
def e0 : ByteArray := ⟨#[]⟩
def nilS (α : Type) : Sl α := ⟨true, [], fun _ => rfl⟩
def rangeI (m : Nat) : List Int := (List.range m).map fun i : Nat => (i : Int)
def intN : TNode := ⟨0, 0, e0, nilS _, nilS _, false⟩
def typN (k : Int) (nm : Sl ByteArray) (m : Nat) (o : Bool) : TNode := ⟨k, 0, e0, nm, Sl.of (rangeI m), o⟩
def treeOf (k : Int) (nm : Sl ByteArray) (m : Nat) (o : Bool) : Tree :=
 ⟨Sl.of [⟨1, 0, e0, 0, 0, nilS _, nilS _, nilS _⟩, ⟨15, 0, e0, 0, 0, nilS _, Sl.of [0], Sl.of [(m : Int)]⟩], Sl.of (List.replicate m intN ++ [typN k nm m o]), nilS _⟩
def inR (n k : Int) : Bool := decide (0 ≤ k) && decide (k < n)
def headB (k : Int) (nm : Sl ByteArray) (a : List Int) (o : Bool) (n : Int) : Bool :=
 !(k == 10) && risS nm.l && a.all (inR n) && (checkP (fun _ => true) TNode.typB (fun _ => false) (treeOf k nm a.length o) == 0)
theorem all_lead {α : Type} {p : α → Bool} {l : List α} (h : ∀ i, i < l.length → ∃ c, l[i]? = some c ∧ p c = true) : l.all p = true := by
 rw [List.all_eq_true]
 intro x hx
 obtain ⟨i, hi⟩ := List.mem_iff_getElem?.1 hx
 obtain ⟨c, e, hc⟩ := h i (List.getElem?_eq_some_iff.1 hi).1
 rw [hi] at e; injection e with e; subst e; exact hc
theorem all_not {α : Type} {p : α → Bool} {l : List α} {x : α} (h : x ∈ l) (hp : p x = false) : l.all p = false := by
 rw [List.all_eq_false]; exact ⟨x, h, by simp [hp]⟩
theorem rangeI_len {m : Nat} : (rangeI m).length = m := by simp [rangeI]
theorem rangeI_succ {j : Nat} : rangeI (j + 1) = rangeI j ++ [(j : Int)] := by simp [rangeI, List.range_succ]
def tsP (j : Nat) : List Nat := if j = 0 then [] else [j, j]
def tsQ (j : Nat) : List Nat := if j = 0 then [1] else [j + 1, j]
theorem accS_q (j : Nat) : accS (tsP j) 0 j 1 = some (tsQ j) := by
 cases j with
 | zero => rfl
 | succ j => simp [accS, tsP, tsQ]
theorem accS_p (j : Nat) : accS (tsQ j) 1 j 1 = some (tsP (j + 1)) := by
 cases j with
 | zero => rfl
 | succ j => simp [accS, tsP, tsQ]
def iF (m : Nat) : Nat := if m = 0 then 0 else 1
def tsE (m : Nat) : List Nat := if m = 0 then [1] else [m, m + 1]
theorem accS_e (m : Nat) : accS (tsP m) (iF m) m 1 = some (tsE m) := by
 cases m with
 | zero => rfl
 | succ j => simp [accS, tsP, iF, tsE]
theorem accW_iF {T n m : Nat} {r : List V} : accW (T + 1) n (List.replicate m r) = accW (T + iF m) n (List.replicate m r) := by
 cases m with
 | zero => rfl
 | succ j => simp [iF]
theorem dp_accV {α : Type} {f : α → List PV} {T n : Nat} {xs : List α} : Dp (accW T n (xs.map fun a => (f a).map .p)) ((Sl.of xs).enc f) := by
 cases xs with
 | nil => exact .p
 | cons x xs => exact (DpR.same (f := f) (x :: xs)).dp
theorem enc_ne {α : Type} {f : α → List PV} {xs : List α} (h : xs ≠ []) : (Sl.of xs).enc f = .sl (xs.map f) := by
 cases xs with
 | nil => exact absurd rfl h
 | cons x xs => rfl
def intRow : List V := [.p (.int .i64 0), .p (.int .i64 0), .p (.str ⟨#[]⟩), .p .nilsl, .p .nilsl, .p (.bool false)]
def kidsW (T : Nat) (m : Nat) : V := accW T 1 ((rangeI m).map fun k => [V.p (.int .i64 k)])
def typRow (k : Int) (pn : PV) (vk : V) (o : Bool) : List V := [.p (.int .i64 k), .p (.int .i64 0), .p (.str ⟨#[]⟩), .p pn, vk, .p (.bool o)]
def nodesV (m : Nat) : V := .sl [[.p (.int .i64 1), .p (.int .i64 0), .p (.str ⟨#[]⟩), .p (.int .i64 0), .p (.int .u64 0), .p .nilsl, .p .nilsl, .p .nilsl],
 [.p (.int .i64 15), .p (.int .i64 0), .p (.str ⟨#[]⟩), .p (.int .i64 0), .p (.int .u64 0), .p .nilsl, .sl [[.p (.int .i64 0)]] .exact, .sl [[.p (.int .i64 m)]] .exact]] .exact
theorem fz_tree {k : Int} {nm : Sl ByteArray} {m : Nat} {o : Bool} {T0 : Nat} {kk : SK} :
  FzA [.agg [nodesV m, .sl (List.replicate m intRow ++ [typRow k (nm.enc eStr) (kidsW T0 m) o]) kk, .p .nilsl]] [.agg ((treeOf k nm m o).enc.map .p)] := by
 refine .cons (.agg (.cons (.sealed ?_) (.cons (.sealed ?_) (.cons .same .nil)))) .nil
 ·unfold nodesV
  show Dp _ (.sl [_, _])
  repeat (first | exact Dp.p | exact DpL.nil | exact DpR.nil | refine DpR.dp ?_ | refine DpL.cons ?_ ?_ | refine DpR.cons ?_ ?_)
 ·show Dp _ ((Sl.of (List.replicate m intN ++ [typN k nm m o])).enc TNode.enc)
  rw [enc_ne (by simp), List.map_append]
  refine DpR.dp (DpR.app ?_ (.cons ?_ .nil))
  ·have := DpR.same (f := TNode.enc) (List.replicate m intN)
   rw [List.map_replicate] at this
   exact this
  ·show DpL [_, _, _, _, _, _] [_, _, _, _, _, _]
   exact .cons .p (.cons .p (.cons .p (.cons .p (.cons (show Dp (accW T0 1 ((rangeI m).map fun a => (eInt a).map .p)) ((Sl.of (rangeI m)).enc eInt) from dp_accV) (.cons .p .nil)))))
theorem rowsK (m : Nat) : ((rangeI m).map fun k => [V.p (.int .i64 k)]).all (rowOk 1) = true := by
 rw [List.all_eq_true]
 intro r hr
 obtain ⟨a, _, rfl⟩ := List.mem_map.1 hr
 rfl
theorem rowsT {m : Nat} : (List.replicate m intRow).all (rowOk 6) = true := by
 rw [List.all_eq_true]
 intro r hr
 obtain ⟨_, rfl⟩ := List.mem_replicate.1 hr
 rfl
theorem accW_ne {T n : Nat} {rows : List (List V)} (h : rows ≠ []) : accW T n rows = .sl rows (.own T rows.length n) := by
 cases rows with
 | nil => exact absurd rfl h
 | cons r rs => rfl
theorem kidsW_succ {T j : Nat} : kidsW T (j + 1) = .sl ((rangeI j).map (fun k => [V.p (.int .i64 k)]) ++ [[V.p (.int .i64 j)]]) (.own T ((rangeI j).map (fun k => [V.p (.int .i64 k)]) ++ [[V.p (.int .i64 j)]]).length 1) := by
 unfold kidsW
 rw [rangeI_succ, List.map_append, accW_ne (by simp)]
 rfl
theorem accT_succ {T j : Nat} {r : List V} : accW T 6 (List.replicate (j + 1) r) = .sl (List.replicate j r ++ [r]) (.own T (List.replicate j r ++ [r]).length 6) := by
 rw [List.replicate_succ', accW_ne (by simp)]
theorem one_kidsW {T m : Nat} : one (kidsW T m) = true := by
 unfold kidsW
 cases (rangeI m).map fun k => [V.p (.int .i64 k)] <;> rfl
theorem typRow_one {k : Int} {pn : PV} {vk : V} {o : Bool} (h : one vk = true) : (typRow k pn vk o).all one = true := by
 simp only [typRow, List.all_cons, List.all_nil, h]; rfl
theorem fillT {z : List V} {k : Int} {pn : PV} {vk : V} {o : Bool} (h : one vk = true) (hz : z.length = 6) : fillIn (fun i => some (i * 6, 6)) (List.replicate 1 z).flatten [(0, .agg (List.take 6 (List.drop 0 (typRow k pn vk o))))] = some (typRow k pn vk o) := by
 have e : cellsOf (.agg (List.take 6 (List.drop 0 (typRow k pn vk o)))) = typRow k pn vk o := rfl
 unfold fillIn
 simp only [e, Nat.zero_mul]
 rw [if_neg (by simp [typRow]), if_pos (typRow_one h)]
 have e2 : put? (List.replicate 1 z).flatten 0 (typRow k pn vk o) = some (typRow k pn vk o) := by
  unfold put?
  rw [if_pos (by simp [typRow, hz])]
  simp [typRow, hz]
 rw [e2]
 rfl
theorem rowsT1 {k : Int} {pn : PV} {vk : V} {o : Bool} (h : one vk = true) : [typRow k pn vk o].all (rowOk 6) = true := by
 simp only [List.all_cons, List.all_nil, Bool.and_true, rowOk, typRow_one h]
 rfl
structure Head.ok (h : Head) : Prop where
 names : h.names.l.length < 2 ^ 60
 each : ∀ s, s ∈ h.names.l → s.size < 2 ^ 60
 kids : h.kids.l.length < 2 ^ 30
theorem keep_same {g g0 : G} (hw : g0.wo ≤ g0.objs.length) (ht : g0.wt ≤ g0.toks.length) (h : g = { g0 with wo := g0.objs.length, wt := g0.toks.length }) : G.mk g.objs g.toks (min g0.wo g.wo) (min g0.wt g.wt) = g0 := by
 subst h
 simp only [Nat.min_eq_left hw, Nat.min_eq_left ht]
theorem term1 : Pure En 122 [.agg ((⟨1, 0, e0, 0, 0, nilS _, nilS _, nilS _⟩ : Node).enc.map .p)] (.p (.bool true)) := pure_quiet mixed (n := 100) fun g => by kernel_rfl
theorem term2 (m : Int) : Pure En 122 [.agg ((⟨15, 0, e0, 0, 0, nilS _, Sl.of [0], Sl.of [m]⟩ : Node).enc.map .p)] (.p (.bool true)) := pure_quiet mixed (n := 100) fun g => by kernel_rfl
theorem tree_ok {k : Int} {nm : Sl ByteArray} {m : Nat} {o : Bool} (hm : m < 2 ^ 59) (hn : nm.l.length < 2 ^ 60) (he : ∀ s, s ∈ nm.l → s.size < 2 ^ 60) (h10 : k ≠ 10) :
  Pure En 98 [.agg ((treeOf k nm m o).enc.map .p)] (.p (.int .i64 (checkP (fun _ => true) TNode.typB (fun _ => false) (treeOf k nm m o)))) := by
 refine check_ok (treeOf k nm m o) ⟨?_, ?_, ?_, ?_, ?_⟩ ?_ ?_ ?_
 ·show (2 : Nat) < _; omega
 ·show (List.replicate m intN ++ [typN k nm m o]).length < _; simp; omega
 ·show (0 : Nat) < _; omega
 ·intro n hn
  simp only [treeOf, Sl.of, List.mem_cons, List.not_mem_nil, or_false] at hn
  rcases hn with rfl | rfl <;> (constructor <;> (show (_ : Nat) < _) <;> simp [nilS])
 ·intro n hn
  simp only [treeOf, Sl.of, List.mem_append, List.mem_replicate, List.mem_cons, List.not_mem_nil, or_false] at hn
  rcases hn with ⟨_, rfl⟩ | rfl
  ·show (0 : Nat) < _; omega
  ·show (rangeI m).length < _; rw [rangeI_len]; omega
 ·intro n hn
  simp only [treeOf, Sl.of, List.mem_cons, List.not_mem_nil, or_false] at hn
  rcases hn with rfl | rfl
  ·exact term1
  ·exact term2 _
 ·intro n hn'
  simp only [treeOf, Sl.of, List.mem_append, List.mem_replicate, List.mem_cons, List.not_mem_nil, or_false] at hn'
  rcases hn' with ⟨_, rfl⟩ | rfl
  ·exact typ_ok _ ⟨by show (0 : Nat) < _; omega, by show (0 : Nat) < _; omega, by intro s hs; cases hs⟩ (by decide)
  ·exact typ_ok _ ⟨hn, by show (rangeI m).length < _; rw [rangeI_len]; omega, he⟩ h10
 ·intro n hn; cases hn
end Go.Vm
set_option maxRecDepth 100000
namespace Go.Vm
open Go
theorem pl24 : placesU En 24 = some [(0, 1), (1, 1)] := by kernel_rfl
theorem pl34 : placesU En 34 = some [(0, 1), (1, 1), (2, 1)] := by kernel_rfl
theorem pl37 : placesU En 37 = some [(0, 1), (1, 1), (2, 1), (3, 1)] := by kernel_rfl
theorem pl40 : placesU En 40 = some [(0, 1), (1, 1)] := by kernel_rfl
theorem pl150 : placesU En 150 = some [(0, 1), (1, 1), (2, 1), (3, 1), (4, 1), (5, 1)] := by kernel_rfl
theorem pl153 : placesU En 153 = some [(0, 1), (1, 1), (2, 1), (3, 1), (4, 1), (5, 1), (6, 1), (7, 1)] := by kernel_rfl
theorem pl158 : placesU En 158 = some [(0, 1), (1, 1), (2, 1)] := by kernel_rfl
end Go.Vm
set_option linter.unusedVariables false
namespace Go.Vm
open Go Go.Proofs
attribute [local irreducible] wpL
set_option maxRecDepth 20000 in
theorem typed_a {g0 : G} (hwo : g0.wo ≤ g0.objs.length) (hwt : g0.wt ≤ g0.toks.length) (k : Int) (pn : PV) (id off len cap n : Nat) (o : Bool) : CallsAt En g0 97 [.agg [.p (.int .i64 k), .p pn, .arr id off len cap n, .p (.bool o)]] (.agg (typRow k pn (.arr id off len cap n) o)) (g0) := by
 refine keep_walk [(0, .agg [.p (.int .i64 k), .p pn, .arr id off len cap n, .p (.bool o)])] Tryz.func97 rfl rfl rfl fun g hg => ?_
 show Wc En _ (Tryz.f97.body.getD .skip) [] (Sx 12 _ _ _ _ _ _)
 unfold Tryz.f97
 simp only [Option.getD_some]
 refine wc_seq (wc_reg fun K hK => ?_)
 refine x_box rfl rfl rfl rfl rfl ?_
 refine x_alloc rfl rfl rfl zero150 rfl ?_
 refine x_nil (hK _ ?_); clear hK K
 refine go_seq (wc_seq (wc_reg fun K hK => ?_))
 refine x_fa rfl rfl rfl fld37_0 rfl ?_
 refine x_ldL rfl rfl rfl isag3 rfl rfl ?_
 refine x_fa rfl rfl rfl fld37_1 rfl ?_
 refine x_ldL rfl rfl rfl isag35 rfl rfl ?_
 refine x_fa rfl rfl rfl fld37_2 rfl ?_
 refine x_ldL rfl rfl rfl isag27 rfl rfl ?_
 refine x_fa rfl rfl rfl fld37_3 rfl ?_
 refine x_ldL rfl rfl rfl isag4 rfl rfl ?_
 refine x_buildU rfl rfl zero150 rfl pl150 rfl ?_
 refine x_stL rfl rfl rfl sz150 rfl rfl rfl rfl ?_
 refine x_nil (hK _ ?_); clear hK K
 refine go_seq (wc_ret ?_)
 exact x_endC (Or.inr rfl) rfl rfl isag150 sz150 rfl rfl (keep_same hwo hwt hg) rfl
set_option maxRecDepth 20000 in
theorem head_a {g0 : G} (k : Int) (nm : Sl ByteArray) (o : Bool) (n : Int) (hn : nm.l.length < 2 ^ 60) (hs : ∀ s, s ∈ nm.l → s.size < 2 ^ 60) {a : List Int} (ha : a.length < 2 ^ 30) {id off cap : Nat} {cs : List V} (hid : g0.objs[id]? = some (.cells cs)) (hcs : ∀ j, (h : j < a.length) → cs[off + (j : Int).toNat * 1]? = some (eI a[j])) : CallsAt En g0 67 [.agg [.p (.int .i64 k), .p (nm.enc eStr), .arr id off a.length cap 1, .p (.bool o)], .p (.int .i64 n)] (.p (.bool (headB k nm a o n))) g0 := by
 refine at_walk [(0, .agg [.p (.int .i64 k), .p (nm.enc eStr), .arr id off a.length cap 1, .p (.bool o)]), (1, .p (.int .i64 n))] Tryz.func67 rfl rfl rfl fun g hgo hgt hwo hwt => ?_
 show Wc En _ (Tryz.f67.body.getD .skip) [] (Sx 74 _ _ _ _ _ _)
 unfold Tryz.f67
 simp only [Option.getD_some]
 rw [← G.ext_nil g]
 refine wc_seq (wc_reg fun K hK => ?_)
 refine x_box rfl rfl rfl rfl rfl ?_
 refine x_assign rfl rfl rfl ?_
 refine x_nil (hK _ ?_); clear hK K
 refine go_seq (wc_seq (wc_seq (wc_reg fun K hK => ?_)))
 refine x_fa rfl rfl rfl fld37_0 rfl ?_
 refine x_ldL rfl rfl rfl isag3 rfl rfl ?_
 refine x_bin rfl rfl rfl rfl rfl ?_
 refine x_moveS rfl rfl rfl (fun hg13 => ?_) (fun hg13 => ?_)
 ·refine x_skip rfl rfl ?_
  refine x_skip rfl rfl ?_
  refine x_skip rfl rfl ?_
  refine x_skip rfl rfl ?_
  refine x_pickT rfl rfl rfl rfl ?_
  refine x_nil (hK _ ?_); clear hK K
  refine go_seq ?_
  refine xc_cond true rfl (fun _ => ?_) (fun h => by cases h)
  refine wc_seq (wc_reg fun K hK => ?_)
  refine x_assign rfl rfl rfl ?_
  refine x_nil (hK _ ?_); clear hK K
  refine go_seq (wc_ret (go_seq_ret ?_))
  exact x_end1 (Or.inr rfl) rfl rfl rfl rfl rfl rfl (by congr 2; simp_all [headB])
 ·refine x_fa rfl rfl rfl fld37_1 rfl ?_
  refine x_ldL rfl rfl rfl isag35 rfl rfl ?_
  refine x_call rfl rfl rfl (by repeat (first | exact ho_nil | refine ho_cons (by first | rfl | exact rd_ho (by assumption)) ?_)) okf96 (risingS_ok Rd.enc hn _) ?_
  refine x_not rfl rfl rfl ?_
  refine x_pickF rfl rfl rfl rfl ?_
  refine x_nil (hK _ ?_); clear hK K
  refine go_seq ?_
  refine xc_cond _ rfl (fun hc0 => ?_) (fun hc0 => ?_)
  ·refine wc_seq (wc_reg fun K hK => ?_)
   refine x_assign rfl rfl rfl ?_
   refine x_nil (hK _ ?_); clear hK K
   refine go_seq (wc_ret (go_seq_ret ?_))
   exact x_end1 (Or.inr rfl) rfl rfl rfl rfl rfl rfl (by congr 2; simp_all [headB])
  ·refine wc_skip (go_seq (wc_seq (wc_seq (wc_reg fun K hK => ?_))))
   refine x_fa rfl rfl rfl fld37_2 rfl ?_
   refine x_ldL rfl rfl rfl isag27 rfl rfl ?_
   refine x_lenA rfl rfl rfl und27 ?_
   refine x_move rfl rfl rfl ?_
   refine x_nil (hK _ ?_); clear hK K
   refine go_seq (wc_block ?_)
   refine xc_loop [(1, _), (2, _), (20, _), (21, _)] [(2, _)] (fun j : Nat => [(22, .p (.int .i64 j))]) (fun j : Nat => j ≤ a.length ∧ ∀ i, i < j → ∃ c, a[i]? = some c ∧ inR n c = true) (fun j : Nat => a.length - j) 0 (by repeat first | exact trivial | refine .intro rfl ?_) (by repeat first | exact trivial | refine .intro rfl ?_) ⟨Nat.zero_le _, fun i hi => by omega⟩ ?_
   rintro j R hR1 hR2 ⟨hj, hr⟩ b rb
   refine wc_seq (wc_reg fun K hK => ?_)
   refine x_bin rfl rfl rfl rfl rfl ?_
   refine x_nil (hK _ ?_); clear hK K
   refine go_seq (wc_seq ?_)
   refine xc_cond _ rfl (fun hc1 => ?_) (fun hc1 => ?_)
   ·have hlt : j < a.length := by simp at hc1; omega
    have e1 : a[j]? = some a[j] := by simp
    refine wc_skip (go_seq (wc_seq (wc_block (wc_seq (wc_reg fun K hK => ?_)))))
    refine x_iaA rfl rfl rfl rfl und27 sz3 rfl (by omega) (by omega) ?_
    refine x_ldO rfl rfl rfl isag3 (by show (g.objs ++ [])[id]? = _; rw [List.append_nil, hgo]; exact hid) (hcs j hlt) ?_
    refine x_assign rfl rfl rfl ?_
    refine x_nil (hK _ ?_); clear hK K
    refine go_seq (wc_seq (wc_reg fun K hK => ?_))
    refine x_move rfl rfl rfl ?_
    refine x_bin rfl rfl rfl rfl rfl ?_
    refine x_moveS rfl rfl rfl (fun hg28 => ?_) (fun hg28 => ?_)
    ·refine x_skip rfl rfl ?_
     refine x_skip rfl rfl ?_
     refine x_skip rfl rfl ?_
     refine x_pickT rfl rfl rfl rfl ?_
     refine x_nil (hK _ ?_); clear hK K
     refine go_seq ?_
     refine xc_cond true rfl (fun _ => ?_) (fun h => by cases h)
     refine wc_seq (wc_reg fun K hK => ?_)
     refine x_assign rfl rfl rfl ?_
     refine x_nil (hK _ ?_); clear hK K
     refine go_seq (wc_ret (go_blk_ret (go_seq_ret ?_)))
     refine hR2 _ _ (by simp) ?_
     refine go_blk_ret (go_seq_ret ?_)
     exact x_end1 (Or.inr rfl) rfl rfl rfl rfl rfl rfl (by congr 2; have : a.all (inR n) = false := all_not (List.getElem_mem hlt) (by simp at hg28; simp [inR]; omega); simp [headB, this])
    ·refine x_move rfl rfl rfl ?_
     refine x_move rfl rfl rfl ?_
     refine x_bin rfl rfl rfl rfl rfl ?_
     refine x_pickF rfl rfl rfl rfl ?_
     refine x_nil (hK _ ?_); clear hK K
     refine go_seq ?_
     refine xc_cond _ rfl (fun hc2 => ?_) (fun hc2 => ?_)
     ·refine wc_seq (wc_reg fun K hK => ?_)
      refine x_assign rfl rfl rfl ?_
      refine x_nil (hK _ ?_); clear hK K
      refine go_seq (wc_ret (go_blk_ret (go_seq_ret ?_)))
      refine hR2 _ _ (by simp) ?_
      refine go_blk_ret (go_seq_ret ?_)
      exact x_end1 (Or.inr rfl) rfl rfl rfl rfl rfl rfl (by congr 2; have : a.all (inR n) = false := all_not (List.getElem_mem hlt) (by simp at hc2; simp [inR]; omega); simp [headB, this])
     ·refine wc_skip (go_blk (go_seq (wc_reg fun K hK => ?_)))
      refine x_inc rfl rfl rfl rfl (by omega) ?_
      refine x_move rfl rfl rfl ?_
      refine x_nil (hK _ ?_); clear hK K
      exact hR1 (j + 1) _ _ _ _ ⟨hlt, leadP_up hr e1 (by simp at hg28 hc2; simp [inR]; omega)⟩ (by omega) (by repeat first | exact trivial | refine .intro rfl ?_) (by repeat first | exact trivial | refine .intro rfl ?_)
   ·have hall : a.all (inR n) = true := all_lead fun i hi => hr i (by simp at hc1; omega)
    refine wc_exit ?_
    refine go_seq_exit ?_
    refine hR2 _ _ (by simp) ?_
    refine go_blk_exit (go_seq (wc_seq (wc_reg fun K hK => ?_)))
    refine x_ldLA rfl rfl rfl isag37 sz37 rfl rfl ?_
    refine x_call rfl rfl rfl (by repeat (first | exact ho_nil | refine ho_cons (by first | rfl | exact rd_ho (by assumption)) ?_)) okf97 (typed_a (by show g.wo ≤ (g.objs ++ []).length; simp; omega) (by show g.wt ≤ (g.toks ++ []).length; simp; omega) _ _ _ _ _ _ _ _) ?_
    refine x_allocG rfl rfl rfl zero150 rfl fun G7 => ?_
    refine x_stL rfl rfl rfl sz150 rfl rfl rfl rfl ?_
    refine x_nil (hK _ ?_); clear hK K
    refine go_seq (wc_seq (wc_reg fun K hK => ?_))
    refine x_buildU rfl rfl zero153 rfl pl153 rfl ?_
    refine x_bs rfl rfl rfl el27 sz3 zero3 rfl rfl rfl ?_
    refine x_fa rfl rfl rfl fld37_2 rfl ?_
    refine x_ldL rfl rfl rfl isag27 rfl rfl ?_
    refine x_lenA rfl rfl rfl und27 ?_
    refine x_bs rfl rfl rfl el27 sz3 zero3 rfl rfl rfl ?_
    refine x_buildU rfl rfl zero153 rfl pl153 rfl ?_
    refine x_bs rfl rfl rfl el154 sz153 zero153 rfl rfl rfl ?_
    refine x_buildU rfl rfl zero158 rfl pl158 rfl ?_
    refine x_allocG rfl rfl rfl zero158 rfl fun G8 => ?_
    refine x_stL rfl rfl rfl sz158 rfl rfl rfl rfl ?_
    refine x_nil (hK _ ?_); clear hK K
    refine go_seq (wc_seq (wc_reg fun K hK => ?_))
    refine x_fa rfl rfl rfl fld150_4 rfl ?_
    refine x_stL rfl rfl rfl sz27 rfl rfl rfl rfl ?_
    refine x_nil (hK _ ?_); clear hK K
    refine go_seq (wc_seq (wc_seq (wc_reg fun K hK => ?_)))
    refine x_fa rfl rfl rfl fld37_2 rfl ?_
    refine x_ldL rfl rfl rfl isag27 rfl rfl ?_
    refine x_lenA rfl rfl rfl und27 ?_
    refine x_move rfl rfl rfl ?_
    refine x_nil (hK _ ?_); clear hK K
    refine go_seq (wc_block ?_)
    refine xc_loopG [(1, _), (2, _), (7, _), (8, _), (20, _), (21, _), (22, _), (48, _)] [(2, _)] (fun j : Nat => [(49, .p (.int .i64 j))]) (fun j : Nat => [(7, (G7, typRow k (nm.enc eStr) (kidsW (g.toks.length + 0) j) o)), (8, (G8, [nodesV a.length, accW (g.toks.length + 1) 6 (List.replicate j intRow), .p .nilsl]))]) (fun j : Nat => g.ext [] (tsP j)) (fun j : Nat => j ≤ a.length) (fun j : Nat => a.length - j) 0 (by repeat first | exact trivial | refine .intro rfl ?_) (by repeat first | exact trivial | refine .intro rfl ?_) rfl (Nat.zero_le _) ?_
    rintro j R hR1 hR2 hj b rb
    refine wc_seq (wc_reg fun K hK => ?_)
    refine x_bin rfl rfl rfl rfl rfl ?_
    refine x_nil (hK _ ?_); clear hK K
    refine go_seq (wc_seq ?_)
    refine xc_cond _ rfl (fun hc3 => ?_) (fun hc3 => ?_)
    ·have hlt : j < a.length := by simp at hc3; omega
     refine wc_skip (go_seq (wc_seq (wc_block (wc_seq (wc_reg fun K hK => ?_)))))
     refine x_move rfl rfl rfl ?_
     refine x_assign rfl rfl rfl ?_
     refine x_nil (hK _ ?_); clear hK K
     refine go_seq (wc_seq (wc_reg fun K hK => ?_))
     refine x_fa rfl rfl rfl fld150_4 rfl ?_
     refine x_ldL rfl rfl rfl isag27 rfl rfl ?_
     refine x_move rfl rfl rfl ?_
     refine x_bs rfl rfl rfl el27 sz3 zero3 rfl rfl rfl ?_
     refine x_app (i := 0) rfl rfl rfl hwt rfl rfl el27 und27 zero3 inf3 rfl (rowsK _) rfl (by show ((List.map _ (rangeI j)).length + 1) * 8 ≤ _; rw [List.length_map, rangeI_len]; omega) (by show accS _ 0 (List.map _ (rangeI j)).length 1 = _; rw [List.length_map, rangeI_len]; exact accS_q j) ?_
     refine x_fa rfl rfl rfl fld150_4 rfl ?_
     refine x_stL rfl rfl rfl sz27 rfl rfl rfl rfl ?_
     refine x_nil (hK _ ?_); clear hK K
     refine go_seq (wc_reg fun K hK => ?_)
     refine x_fa rfl rfl rfl fld158_1 rfl ?_
     refine x_ldL rfl rfl rfl isag155 rfl rfl ?_
     refine x_buildU rfl rfl zero150 rfl pl150 rfl ?_
     refine x_bs rfl rfl rfl el155 sz150 zero150 rfl rfl rfl ?_
     refine x_app (i := 1) rfl rfl rfl hwt rfl rfl el155 und155 zero150 inf150 rfl rowsT rfl (by show ((List.replicate j intRow).length + 1) * 88 ≤ _; rw [List.length_replicate]; omega) (by show accS _ 1 (List.replicate j intRow).length 1 = _; rw [List.length_replicate]; exact accS_p j) ?_
     refine x_fa rfl rfl rfl fld158_1 rfl ?_
     refine x_stL rfl rfl rfl sz155 rfl rfl rfl rfl ?_
     refine x_nil (hK _ ?_); clear hK K
     refine go_blk (go_seq (wc_reg fun K hK => ?_))
     refine x_inc rfl rfl rfl rfl (by omega) ?_
     refine x_move rfl rfl rfl ?_
     refine x_nil (hK _ ?_); clear hK K
     exact hR1 (j + 1) _ _ _ _ _ hlt (by omega) (by repeat first | exact trivial | refine .intro rfl ?_) (by repeat (first | exact trivial | refine And.intro rfl ?_ | refine And.intro (by simp only [kidsW_succ, accT_succ]; rfl) ?_)) rfl
    ·obtain rfl : j = a.length := by simp at hc3; omega
     refine wc_exit ?_
     refine go_seq_exit ?_
     refine hR2 _ _ (by simp) ?_
     refine go_blk_exit (go_seq (wc_seq (wc_reg fun K hK => ?_)))
     refine x_fa rfl rfl rfl fld158_1 rfl ?_
     refine x_ldL rfl rfl rfl isag155 rfl rfl ?_
     refine x_ldLA rfl rfl rfl isag150 sz150 rfl rfl ?_
     refine x_bs rfl rfl rfl el155 sz150 zero150 rfl rfl (fillT one_kidsW rfl) ?_
     refine x_app (i := iF a.length) (ys := [typRow k (nm.enc eStr) (kidsW (g.toks.length + 0) a.length) o]) rfl rfl rfl hwt (by rw [← accW_iF]; rfl) rfl el155 und155 zero150 inf150 rfl rowsT (rowsT1 one_kidsW) (by show ((List.replicate a.length intRow).length + 1) * 88 ≤ _; rw [List.length_replicate]; omega) (by show accS _ (iF a.length) (List.replicate a.length intRow).length 1 = _; rw [List.length_replicate]; exact accS_e a.length) ?_
     refine x_fa rfl rfl rfl fld158_1 rfl ?_
     refine x_stL rfl rfl rfl sz155 rfl rfl rfl rfl ?_
     refine x_nil (hK _ ?_); clear hK K
     refine go_seq (wc_seq (wc_reg fun K hK => ?_))
     refine x_ldLA rfl rfl rfl isag158 sz158 rfl rfl ?_
     refine x_call rfl rfl rfl (by repeat (first | exact ho_nil | refine ho_cons (by first | rfl | exact rd_ho (by assumption)) ?_)) okf98 (frz fz_tree (tree_ok (by omega) hn hs (by simpa using hg13) _)) ?_
     refine x_bin rfl rfl rfl rfl rfl ?_
     refine x_assign rfl rfl rfl ?_
     refine x_nil (hK _ ?_); clear hK K
     refine go_seq (wc_ret ?_)
     exact x_end1 (Or.inr rfl) rfl rfl rfl rfl rfl rfl (by congr 2; simp_all [headB])
end Go.Vm
set_option linter.unusedVariables false
namespace Go.Vm
open Go Go.Proofs
attribute [local irreducible] wpL
set_option maxRecDepth 20000 in
theorem graph_a {g0 : G} (k : Int) (nm : Sl ByteArray) (o : Bool) (hn : nm.l.length < 2 ^ 60) (hs : ∀ s, s ∈ nm.l → s.size < 2 ^ 60) {a : List Int} (ha : a.length < 2 ^ 30) {id off cap : Nat} {cs : List V} (hid : g0.objs[id]? = some (.cells cs)) (hcs : ∀ j, (h : j < a.length) → cs[off + (j : Int).toNat * 1]? = some (eI a[j])) : CallsAt En g0 41 [.agg [.sl [[.p (.int .i64 k), .p (nm.enc eStr), .arr id off a.length cap 1, .p (.bool o)]] .exact, .p (.int .i64 0)]] (.p (.int .i64 (if headB k nm a o 1 then 0 else 14))) g0 := by
 refine at_walk [(0, .agg [.sl [[.p (.int .i64 k), .p (nm.enc eStr), .arr id off a.length cap 1, .p (.bool o)]] .exact, .p (.int .i64 0)])] Tryz.func41 rfl rfl rfl fun g hgo hgt hwo hwt => ?_
 show Wc En _ (Tryz.f41.body.getD .skip) [] (Sx 42 _ _ _ _ _ _)
 unfold Tryz.f41
 simp only [Option.getD_some]
 refine wc_seq (wc_reg fun K hK => ?_)
 refine x_box rfl rfl rfl rfl rfl ?_
 refine x_assign rfl rfl rfl ?_
 refine x_nil (hK _ (go_seq (wc_seq (wc_seq (wc_reg fun K hK => ?_)))))
 refine x_fa rfl rfl rfl fld40_0 rfl ?_
 refine x_ldL rfl rfl rfl isag32 rfl rfl ?_
 refine x_lenV rfl rfl rfl und32 ?_
 refine x_bin rfl rfl rfl rfl rfl ?_
 refine x_moveS rfl rfl rfl (fun hg9 => ?_) (fun hg9 => ?_)
 ·cases hg9
 ·refine x_fa rfl rfl rfl fld40_0 rfl ?_
  refine x_ldL rfl rfl rfl isag32 rfl rfl ?_
  refine x_lenV rfl rfl rfl und32 ?_
  refine x_bin rfl rfl rfl rfl rfl ?_
  refine x_pickF rfl rfl rfl rfl ?_
  refine x_moveS rfl rfl rfl (fun hg15 => ?_) (fun hg15 => ?_)
  ·cases hg15
  ·refine x_fa rfl rfl rfl fld40_1 rfl ?_
   refine x_ldL rfl rfl rfl isag3 rfl rfl ?_
   refine x_bin rfl rfl rfl rfl rfl ?_
   refine x_pickF rfl rfl rfl rfl ?_
   refine x_moveS rfl rfl rfl (fun hg20 => ?_) (fun hg20 => ?_)
   ·cases hg20
   ·refine x_fa rfl rfl rfl fld40_1 rfl ?_
    refine x_ldL rfl rfl rfl isag3 rfl rfl ?_
    refine x_fa rfl rfl rfl fld40_0 rfl ?_
    refine x_ldL rfl rfl rfl isag32 rfl rfl ?_
    refine x_lenV rfl rfl rfl und32 ?_
    refine x_bin rfl rfl rfl rfl rfl ?_
    refine x_pickF rfl rfl rfl rfl ?_
    refine x_nil (hK _ (go_seq ?_))
    refine xc_cond _ rfl (fun hc0 => ?_) (fun hc0 => ?_)
    ·cases hc0
    ·refine wc_skip (go_seq (wc_seq (wc_seq (wc_reg fun K hK => ?_))))
     refine x_fa rfl rfl rfl fld40_0 rfl ?_
     refine x_ldL rfl rfl rfl isag32 rfl rfl ?_
     refine x_lenV rfl rfl rfl und32 ?_
     refine x_move rfl rfl rfl ?_
     refine x_nil (hK _ (go_seq (wc_block ?_)))
     refine xc_loop [(1, _), (29, _), (30, _)] [(1, _)] (fun j : Nat => [(31, .p (.int .i64 j))]) (fun j : Nat => j = 0 ∨ (j = 1 ∧ headB k nm a o 1 = true)) (fun j : Nat => 1 - j) 0 (by repeat first | exact trivial | refine .intro rfl ?_) (by repeat first | exact trivial | refine .intro rfl ?_) (Or.inl rfl) ?_
     rintro j R hR1 hR2 hj b rb
     refine wc_seq (wc_reg fun K hK => ?_)
     refine x_bin rfl rfl rfl rfl rfl ?_
     refine x_nil (hK _ (go_seq (wc_seq ?_)))
     refine xc_cond _ rfl (fun hc1 => ?_) (fun hc1 => ?_)
     ·obtain rfl : j = 0 := by simp at hc1; omega
      refine wc_skip (go_seq (wc_seq (wc_block (wc_seq (wc_reg fun K hK => ?_)))))
      refine x_iaS rfl rfl rfl rfl und32 sz37 rfl rfl rfl ?_
      refine x_ldRA rfl rfl rfl isag37 sz37 rfl ?_
      refine x_alloc rfl rfl rfl zero37 rfl ?_
      refine x_stL rfl rfl rfl sz37 rfl rfl rfl rfl ?_
      refine x_nil (hK _ (go_seq (wc_seq (wc_reg fun K hK => ?_))))
      refine x_ldLA rfl rfl rfl isag37 sz37 rfl rfl ?_
      refine x_fa rfl rfl rfl fld40_0 rfl ?_
      refine x_ldL rfl rfl rfl isag32 rfl rfl ?_
      refine x_lenV rfl rfl rfl und32 ?_
      refine x_call rfl rfl rfl (by repeat (first | exact ho_nil | refine ho_cons (by first | rfl | exact rd_ho (by assumption)) ?_)) okf67 (head_a k nm o 1 hn hs ha (by rw [hgo]; exact hid) hcs) ?_
      refine x_not rfl rfl rfl ?_
      refine x_nil (hK _ (go_seq ?_))
      refine xc_cond _ rfl (fun hc2 => ?_) (fun hc2 => ?_)
      ·refine wc_seq (wc_reg fun K hK => ?_)
       refine x_assign rfl rfl rfl ?_
       refine x_nil (hK _ (go_seq (wc_ret (go_blk_ret (go_seq_ret ?_)))))
       refine hR2 _ _ (by simp) ?_
       refine go_blk_ret (go_seq_ret ?_)
       exact x_end1 (Or.inr rfl) rfl rfl rfl rfl rfl rfl (ieq (by have : headB k nm a o 1 = false := (by simpa using hc2); rw [this]; rfl))
      ·refine wc_skip (go_blk (go_seq (wc_reg fun K hK => ?_)))
       refine x_inc rfl rfl rfl rfl (by omega) ?_
       refine x_move rfl rfl rfl ?_
       refine x_nil (hK _ ?_); clear hK K
       exact hR1 1 _ _ _ _ (Or.inr ⟨rfl, by simpa using hc2⟩) (by omega) (by repeat first | exact trivial | refine .intro rfl ?_) (by repeat first | exact trivial | refine .intro rfl ?_)
     ·refine wc_exit ?_
      refine go_seq_exit ?_
      refine hR2 _ _ (by simp) ?_
      refine go_blk_exit (go_seq (wc_seq (wc_reg fun K hK => ?_)))
      refine x_assign rfl rfl rfl ?_
      refine x_nil (hK _ (go_seq (wc_ret ?_)))
      exact x_end1 (Or.inr rfl) rfl rfl rfl rfl rfl rfl (ieq (by have : headB k nm a o 1 = true := (by rcases hj with rfl | ⟨_, h⟩; (cases hc1); exact h); rw [this]; rfl))
end Go.Vm
set_option linter.unusedVariables false
namespace Go.Vm
open Go Go.Proofs
structure StateP where
 plus : Bool
 heads : Sl Head
 vars : Sl Int
def StateP.enc (s : StateP) : List PV := [.bool s.plus, s.heads.enc Head.enc, s.vars.enc eInt]
def AutoP.enc (L : Sl StateP) (root : Int) : List PV := [L.enc StateP.enc, .int .i64 root]
structure StateP.ok (s : StateP) : Prop where
 heads : s.heads.l.length < 2 ^ 30
 vars : s.vars.l.length < 2 ^ 30
 each : ∀ h, h ∈ s.heads.l → h.ok
def kidB (L : List StateP) (pl : Bool) (kind : Int) (i : Nat) (k : Int) : Bool :=
 decide (0 ≤ k) && decide (k < L.length) && ((L[k.toNat]?.map (·.plus)).getD false == (pl != (kind == 7 && i == 0)))
def kidsB (L : List StateP) (pl : Bool) (kind : Int) (a : List Int) : Bool := (List.range a.length).all fun i => kidB L pl kind i (a.getD i 0)
def pheadB (L : List StateP) (pl : Bool) (h : Head) : Bool := headB h.kind h.names (List.replicate h.kids.l.length 0) h.op 1 && kidsB L pl h.kind h.kids.l
theorem kidsB_yes {L : List StateP} {pl : Bool} {kind : Int} {a : List Int} (h : ∀ i, i < a.length → kidB L pl kind i (a.getD i 0) = true) : kidsB L pl kind a = true := by
 unfold kidsB
 rw [List.all_eq_true]
 intro i hi
 exact h i (List.mem_range.1 hi)
theorem kidsB_no {L : List StateP} {pl : Bool} {kind : Int} {a : List Int} {i : Nat} (hi : i < a.length) (h : kidB L pl kind i (a.getD i 0) = false) : kidsB L pl kind a = false := by
 unfold kidsB
 rw [List.all_eq_false]
 exact ⟨i, List.mem_range.2 hi, by rw [h]; simp⟩
theorem kid_T {p q : Bool} {kd : Int} {j : Nat} {r : Bool} (h : (kd == 7) = true) (hc : (!(p == !(q == ((j : Int) == 0)))) = r) : (p == (q != (kd == 7 && j == 0))) = !r := by
 have e : ((j : Int) == 0) = (j == 0) := by rw [Bool.eq_iff_iff]; simp
 rw [e] at hc
 rw [h, ← hc]
 cases p <;> cases q <;> cases (j == 0) <;> rfl
theorem kid_F {p q : Bool} {kd : Int} {j : Nat} {r : Bool} (h : (kd == 7) = false) (hc : (!(p == !(q == false))) = r) : (p == (q != (kd == 7 && j == 0))) = !r := by
 rw [h, ← hc]
 cases p <;> cases q <;> rfl
theorem graph_z {g : G} (k : Int) (nm : Sl ByteArray) (o : Bool) (hn : nm.l.length < 2 ^ 60) (hs : ∀ s, s ∈ nm.l → s.size < 2 ^ 60) {m : Nat} (hm : m < 2 ^ 30) :
  CallsAt En (g.ext [.cells (List.replicate m [V.p (.int .i64 0)]).flatten] []) 41 [.agg [.sl [[.p (.int .i64 k), .p (nm.enc eStr), .arr (g.objs.length + 0) 0 m m 1, .p (.bool o)]] .exact, .p (.int .i64 0)]] (.p (.int .i64 (if headB k nm (List.replicate m 0) o 1 then 0 else 14))) (g.ext [.cells (List.replicate m [V.p (.int .i64 0)]).flatten] []) := by
 have := graph_a (g0 := g.ext [.cells (List.replicate m [V.p (.int .i64 0)]).flatten] []) k nm o hn hs (a := List.replicate m 0) (by simpa using hm) (id := g.objs.length + 0) (off := 0) (cap := m) (cs := (List.replicate m [V.p (.int .i64 0)]).flatten) (by rw [ext_obj]; rfl) (by
  intro j h
  simp at h
  simp [List.flatten_replicate_singleton, eI, h])
 simpa only [List.length_replicate] using this
end Go.Vm
set_option linter.unusedVariables false
namespace Go.Vm
open Go Go.Proofs
attribute [local irreducible] wpL
set_option maxRecDepth 20000 in
theorem phead_ok (L : Sl StateP) (root : Int) (s : StateP) (h : Head) (hL : L.l.length < 2 ^ 60) (hh : h.ok) : Pure En 64 [.agg ((AutoP.enc L root).map .p), .agg (s.enc.map .p), .agg (h.enc.map .p)] (.p (.bool (pheadB L.l s.plus h))) := by
 have hk := hh.kids
 refine pure_walk [(0, .agg ((AutoP.enc L root).map .p)), (1, .agg (s.enc.map .p)), (2, .agg (h.enc.map .p))] Tryz.func64 rfl rfl rfl fun g hwo hwt => ?_
 show Wc En _ (Tryz.f64.body.getD .skip) [] (Sx 63 _ _ _ _ _ _)
 unfold Tryz.f64
 simp only [Option.getD_some]
 rw [← G.ext_nil g]
 refine wc_seq (wc_reg fun K hK => ?_)
 refine x_box rfl rfl rfl rfl rfl ?_
 refine x_box rfl rfl rfl rfl rfl ?_
 refine x_box rfl rfl rfl rfl rfl ?_
 refine x_assign rfl rfl rfl ?_
 refine x_nil (hK _ ?_); clear hK K
 refine go_seq (wc_seq ?_)
 refine xc_drwP (.seg [0] (.adr 1 [(9, false), (13, false)] (.seg [2] (.adr 3 [(9, false), (13, false)] (.seg [4] (.adr 5 [(9, false), (13, false)] (.seg [6] (.adr 7 [(13, false)] (.adr 8 [(13, false)] (.seg [9, 10, 11, 12, 13, 14] .fin)))))))))) mixed (by kernel_rfl) fun K hK => ?_
 refine pl_seg ?_
 refine x_fa rfl rfl rfl fld37_0 rfl ?_
 refine pl_end ?_
 refine pl_adr rfl ?_
 refine x_ldL rfl rfl rfl isag3 rfl rfl ?_
 refine pl_end ?_
 refine pl_seg ?_
 refine x_fa rfl rfl rfl fld37_1 rfl ?_
 refine pl_end ?_
 refine pl_adr rfl ?_
 refine x_ldL rfl rfl rfl isag35 rfl rfl ?_
 refine pl_end ?_
 refine pl_seg ?_
 refine x_fa rfl rfl rfl fld37_3 rfl ?_
 refine pl_end ?_
 refine pl_adr rfl ?_
 refine x_ldL rfl rfl rfl isag4 rfl rfl ?_
 refine pl_end ?_
 refine pl_seg ?_
 refine x_fa rfl rfl rfl fld37_2 rfl ?_
 refine pl_end ?_
 refine pl_adr rfl ?_
 refine x_ldL rfl rfl rfl isag27 rfl rfl ?_
 refine pl_end ?_
 refine pl_adr rfl ?_
 refine x_len rfl rfl rfl (by first | assumption | exact Rd.enc) und27 ?_
 refine pl_end ?_
 refine pl_seg ?_
 refine x_mkslice rfl rfl rfl rfl el27 zero3 inf3 rfl (by omega) (by omega) ?_
 refine x_buildU rfl rfl zero37 rfl pl37 rfl ?_
 refine x_bs rfl rfl rfl el32 sz37 zero37 rfl rfl rfl ?_
 refine x_buildU rfl rfl zero40 rfl pl40 rfl ?_
 refine x_alloc rfl rfl rfl zero40 rfl ?_
 refine x_stL rfl rfl rfl sz40 rfl rfl rfl rfl ?_
 refine pl_end ?_
 refine pl_fin (hK _ ?_); clear hK K
 refine go_seq (wc_seq (wc_seq (wc_reg fun K hK => ?_)))
 refine x_ldLA rfl rfl rfl isag40 sz40 rfl rfl ?_
 refine x_call rfl rfl rfl (by repeat (first | exact ho_nil | refine ho_cons (by first | rfl | exact rd_ho (by assumption)) ?_)) okf41 (graph_z h.kind h.names h.op hh.names hh.each hh.kids) ?_
 refine x_bin rfl rfl rfl rfl rfl ?_
 refine x_nil (hK _ ?_); clear hK K
 refine go_seq ?_
 refine xc_cond _ rfl (fun hc0 => ?_) (fun hc0 => ?_)
 ·refine wc_seq (wc_reg fun K hK => ?_)
  refine x_assign rfl rfl rfl ?_
  refine x_nil (hK _ ?_); clear hK K
  refine go_seq (wc_ret (go_seq_ret ?_))
  exact x_end1 (Or.inr rfl) rfl rfl rfl rfl rfl rfl (by congr 2; simp_all [pheadB])
 ·have hgood : headB h.kind h.names (List.replicate h.kids.l.length 0) h.op 1 = true := by simpa using hc0
  refine wc_skip (go_seq (wc_seq (wc_seq (wc_reg fun K hK => ?_))))
  refine x_fa rfl rfl rfl fld37_2 rfl ?_
  refine x_ldL rfl rfl rfl isag27 rfl rfl ?_
  refine x_len rfl rfl rfl (by first | assumption | exact Rd.enc) und27 ?_
  refine x_move rfl rfl rfl ?_
  refine x_nil (hK _ ?_); clear hK K
  refine go_seq (wc_block ?_)
  refine xc_loop [(3, _), (4, _), (5, _), (27, _), (28, _)] [(3, _), (4, _), (5, _)] (fun j : Nat => [(29, .p (.int .i64 j))]) (fun j : Nat => j ≤ h.kids.l.length ∧ ∀ i, i < j → kidB L.l s.plus h.kind i (h.kids.l.getD i 0) = true) (fun j : Nat => h.kids.l.length - j) 0 (by repeat first | exact trivial | refine .intro rfl ?_) (by repeat first | exact trivial | refine .intro rfl ?_) ⟨Nat.zero_le _, fun i hi => by omega⟩ ?_
  rintro j R hR1 hR2 ⟨hj, hr⟩ b rb
  refine wc_seq (wc_reg fun K hK => ?_)
  refine x_bin rfl rfl rfl rfl rfl ?_
  refine x_nil (hK _ ?_); clear hK K
  refine go_seq (wc_seq ?_)
  refine xc_cond _ rfl (fun hc1 => ?_) (fun hc1 => ?_)
  ·have hlt : j < h.kids.l.length := by simp at hc1; omega
   have e1 : h.kids.l[j]? = some h.kids.l[j] := by simp
   have e3 : h.kids.l.getD j 0 = h.kids.l[j] := by rw [List.getD_eq_getElem?_getD, e1]; rfl
   refine wc_skip (go_seq (wc_seq (wc_block (wc_seq (wc_reg fun K hK => ?_)))))
   refine x_move rfl rfl rfl ?_
   refine x_ia rfl rfl rfl (by first | assumption | exact Rd.enc) rfl und27 sz3 rfl (by assumption) rfl ?_
   refine x_ldR rfl rfl rfl isag3 rfl ?_
   refine x_assign rfl rfl rfl ?_
   refine x_assign rfl rfl rfl ?_
   refine x_nil (hK _ ?_); clear hK K
   refine go_seq (wc_seq ?_)
   refine xc_drw [0, 1, 2, 3, 4, 5, 6, 7, 8, 9, 10, 11, 12, 13, 14, 15, 16, 17, 18, 19, 20, 21, 22, 23, 24, 25, 26, 27] mixed (by kernel_rfl) fun K hK => ?_
   refine x_move rfl rfl rfl ?_
   refine x_bin rfl rfl rfl rfl rfl ?_
   refine x_moveS rfl rfl rfl (fun hg36 => ?_) (fun hg36 => ?_)
   ·refine x_skip rfl rfl ?_
    refine x_skip rfl rfl ?_
    refine x_skip rfl rfl ?_
    refine x_skip rfl rfl ?_
    refine x_skip rfl rfl ?_
    refine x_pickT rfl rfl rfl rfl ?_
    refine x_move rfl rfl rfl ?_
    refine x_skip rfl rfl ?_
    refine x_skip rfl rfl ?_
    refine x_skip rfl rfl ?_
    refine x_skip rfl rfl ?_
    refine x_skip rfl rfl ?_
    refine x_skip rfl rfl ?_
    refine x_skip rfl rfl ?_
    refine x_skip rfl rfl ?_
    refine x_skip rfl rfl ?_
    refine x_skip rfl rfl ?_
    refine x_skip rfl rfl ?_
    refine x_skip rfl rfl ?_
    refine x_skip rfl rfl ?_
    refine x_skip rfl rfl ?_
    refine x_skip rfl rfl ?_
    refine x_skip rfl rfl ?_
    refine x_skip rfl rfl ?_
    refine x_pickT rfl rfl rfl rfl ?_
    refine x_nil (hK _ ?_); clear hK K
    refine go_seq ?_
    refine xc_cond true rfl (fun _ => ?_) (fun h => by cases h)
    refine wc_seq (wc_reg fun K hK => ?_)
    refine x_assign rfl rfl rfl ?_
    refine x_nil (hK _ ?_); clear hK K
    refine go_seq (wc_ret (go_blk_ret (go_seq_ret ?_)))
    refine hR2 _ _ (by simp) ?_
    refine go_blk_ret (go_seq_ret ?_)
    exact x_end1 (Or.inr rfl) rfl rfl rfl rfl rfl rfl (by congr 2; simp only [pheadB, hgood, Bool.true_and]; exact (kidsB_no hlt (by rw [e3]; simp at hg36; simp only [kidB]; rw [decide_eq_false (by omega)]; rfl)).symm)
   ·refine x_move rfl rfl rfl ?_
    refine x_fa rfl rfl rfl fld24_0 rfl ?_
    refine x_ldL rfl rfl rfl isag22 rfl rfl ?_
    refine x_len rfl rfl rfl (by first | assumption | exact Rd.enc) und22 ?_
    refine x_bin rfl rfl rfl rfl rfl ?_
    refine x_pickF rfl rfl rfl rfl ?_
    refine x_moveS rfl rfl rfl (fun hg43 => ?_) (fun hg43 => ?_)
    ·refine x_skip rfl rfl ?_
     refine x_skip rfl rfl ?_
     refine x_skip rfl rfl ?_
     refine x_skip rfl rfl ?_
     refine x_skip rfl rfl ?_
     refine x_skip rfl rfl ?_
     refine x_skip rfl rfl ?_
     refine x_skip rfl rfl ?_
     refine x_skip rfl rfl ?_
     refine x_skip rfl rfl ?_
     refine x_skip rfl rfl ?_
     refine x_skip rfl rfl ?_
     refine x_skip rfl rfl ?_
     refine x_skip rfl rfl ?_
     refine x_skip rfl rfl ?_
     refine x_skip rfl rfl ?_
     refine x_skip rfl rfl ?_
     refine x_pickT rfl rfl rfl rfl ?_
     refine x_nil (hK _ ?_); clear hK K
     refine go_seq ?_
     refine xc_cond true rfl (fun _ => ?_) (fun h => by cases h)
     refine wc_seq (wc_reg fun K hK => ?_)
     refine x_assign rfl rfl rfl ?_
     refine x_nil (hK _ ?_); clear hK K
     refine go_seq (wc_ret (go_blk_ret (go_seq_ret ?_)))
     refine hR2 _ _ (by simp) ?_
     refine go_blk_ret (go_seq_ret ?_)
     exact x_end1 (Or.inr rfl) rfl rfl rfl rfl rfl rfl (by congr 2; simp only [pheadB, hgood, Bool.true_and]; exact (kidsB_no hlt (by rw [e3]; simp at hg43; simp only [kidB]; rw [decide_eq_false (p := _ < _) (by omega), Bool.and_false]; rfl)).symm)
    ·have h0 : 0 ≤ h.kids.l[j] := by simp at hg36; omega
     have hlen : h.kids.l[j] < L.l.length := by simp at hg43; omega
     have h2 : (h.kids.l[j]).toNat < L.l.length := by omega
     obtain ⟨st, e2⟩ : ∃ st, L.l[(h.kids.l[j]).toNat]? = some st := ⟨_, List.getElem?_eq_getElem h2⟩
     have hkb : kidB L.l s.plus h.kind j (h.kids.l.getD j 0) = (st.plus == (s.plus != (h.kind == 7 && j == 0))) := by rw [e3]; simp only [kidB, h0, hlen, decide_true, Bool.true_and, e2, Option.map_some, Option.getD_some]
     refine x_fa rfl rfl rfl fld24_0 rfl ?_
     refine x_ldL rfl rfl rfl isag22 rfl rfl ?_
     refine x_move rfl rfl rfl ?_
     refine x_iaI rfl rfl rfl Rd.enc rfl und22 sz34 rfl h0 e2 rfl ?_
     refine x_fa rfl rfl rfl fld34_0 rfl ?_
     refine x_ldR rfl rfl rfl isag4 rfl ?_
     refine x_fa rfl rfl rfl fld34_0 rfl ?_
     refine x_ldL rfl rfl rfl isag4 rfl rfl ?_
     refine x_fa rfl rfl rfl fld37_0 rfl ?_
     refine x_ldL rfl rfl rfl isag3 rfl rfl ?_
     refine x_bin rfl rfl rfl rfl rfl ?_
     refine x_moveS rfl rfl rfl (fun hg55 => ?_) (fun hg55 => ?_)
     ·refine x_move rfl rfl rfl ?_
      refine x_bin rfl rfl rfl rfl rfl ?_
      refine x_pickT rfl rfl rfl rfl ?_
      refine x_bin rfl rfl rfl rfl rfl ?_
      refine x_bin rfl rfl rfl rfl rfl ?_
      refine x_pickF rfl rfl rfl rfl ?_
      refine x_nil (hK _ ?_); clear hK K
      refine go_seq ?_
      refine xc_cond _ rfl (fun hc2 => ?_) (fun hc2 => ?_)
      ·refine wc_seq (wc_reg fun K hK => ?_)
       refine x_assign rfl rfl rfl ?_
       refine x_nil (hK _ ?_); clear hK K
       refine go_seq (wc_ret (go_blk_ret (go_seq_ret ?_)))
       refine hR2 _ _ (by simp) ?_
       refine go_blk_ret (go_seq_ret ?_)
       exact x_end1 (Or.inr rfl) rfl rfl rfl rfl rfl rfl (by congr 2; simp only [pheadB, hgood, Bool.true_and]; exact (kidsB_no hlt (by rw [hkb]; exact kid_T hg55 hc2)).symm)
      ·refine wc_skip (go_blk (go_seq (wc_reg fun K hK => ?_)))
       refine x_inc rfl rfl rfl rfl (by omega) ?_
       refine x_move rfl rfl rfl ?_
       refine x_nil (hK _ ?_); clear hK K
       exact hR1 (j + 1) _ _ _ _ ⟨hlt, fun i hi => by rcases Nat.lt_succ_iff_lt_or_eq.1 hi with hi | rfl; (exact hr i hi); rw [hkb]; exact kid_T hg55 hc2⟩ (by omega) (by repeat first | exact trivial | refine .intro rfl ?_) (by repeat first | exact trivial | refine .intro rfl ?_)
     ·refine x_skip rfl rfl ?_
      refine x_skip rfl rfl ?_
      refine x_pickF rfl rfl rfl rfl ?_
      refine x_bin rfl rfl rfl rfl rfl ?_
      refine x_bin rfl rfl rfl rfl rfl ?_
      refine x_pickF rfl rfl rfl rfl ?_
      refine x_nil (hK _ ?_); clear hK K
      refine go_seq ?_
      refine xc_cond _ rfl (fun hc3 => ?_) (fun hc3 => ?_)
      ·refine wc_seq (wc_reg fun K hK => ?_)
       refine x_assign rfl rfl rfl ?_
       refine x_nil (hK _ ?_); clear hK K
       refine go_seq (wc_ret (go_blk_ret (go_seq_ret ?_)))
       refine hR2 _ _ (by simp) ?_
       refine go_blk_ret (go_seq_ret ?_)
       exact x_end1 (Or.inr rfl) rfl rfl rfl rfl rfl rfl (by congr 2; simp only [pheadB, hgood, Bool.true_and]; exact (kidsB_no hlt (by rw [hkb]; exact kid_F hg55 hc3)).symm)
      ·refine wc_skip (go_blk (go_seq (wc_reg fun K hK => ?_)))
       refine x_inc rfl rfl rfl rfl (by omega) ?_
       refine x_move rfl rfl rfl ?_
       refine x_nil (hK _ ?_); clear hK K
       exact hR1 (j + 1) _ _ _ _ ⟨hlt, fun i hi => by rcases Nat.lt_succ_iff_lt_or_eq.1 hi with hi | rfl; (exact hr i hi); rw [hkb]; exact kid_F hg55 hc3⟩ (by omega) (by repeat first | exact trivial | refine .intro rfl ?_) (by repeat first | exact trivial | refine .intro rfl ?_)
  ·refine wc_exit ?_
   refine go_seq_exit ?_
   refine hR2 _ _ (by simp) ?_
   refine go_blk_exit (go_seq (wc_seq (wc_reg fun K hK => ?_)))
   refine x_assign rfl rfl rfl ?_
   refine x_nil (hK _ ?_); clear hK K
   refine go_seq (wc_ret ?_)
   exact x_end1 (Or.inr rfl) rfl rfl rfl rfl rfl rfl (by congr 2; simp only [pheadB, hgood, Bool.true_and]; exact (kidsB_yes fun i hi => hr i (by simp at hc1; omega)).symm)
end Go.Vm
set_option linter.unusedVariables false
namespace Go.Vm
open Go Go.Proofs
def tkK (p : Bool) : Int := if p then 5 else 6
def ctK (p : Bool) : Int := if p then 6 else 5
def fitB (L : List StateP) (s : StateP) (h : Head) : Bool :=
 pheadB L s.plus h && !(h.kind == ctK s.plus) && !(h.kind == tkK s.plus && (decide (1 < s.heads.l.length) || decide (0 < s.vars.l.length)))
def pstateB (L : List StateP) (s : StateP) : Bool :=
 s.heads.l.all (fitB L s) && (risI (s.heads.l.map (·.kind)) && (risI s.vars.l && (s.vars.l.length == 0 || decide (0 ≤ s.vars.l.getD 0 0))))
def autoB (L : List StateP) (root : Int) : Int :=
 if L.length = 0 ∨ 4096 < L.length ∨ root < 0 ∨ (L.length : Int) ≤ root then 14 else if (L[root.toNat]?.map (·.plus)).getD false = true ∧ L.all (pstateB L) = true then 0 else 14
theorem kinds_up {l : List Head} {j : Nat} {h : Head} (e : l[j]? = some h) : (l.take (j + 1)).map (·.kind) = (l.take j).map (·.kind) ++ [h.kind] := by
 have hj := (List.getElem?_eq_some_iff.1 e).1
 have he := (List.getElem?_eq_some_iff.1 e).2
 rw [List.take_succ_eq_append_getElem hj, List.map_append, he]; rfl
end Go.Vm
