/- Part 20 of the texts that the claim leans on: a judgement on the program over plain values, its soundness, and contracts of functions. -/
import Derived.Test.YtmknnanbmkmnjaaGreatDoorW19
import Derived.Test.YtmknnanbmkmnjaaGreatDoorRows
import Derived.LaidMore
import Derived.Stop.Joined
set_option linter.unusedVariables false
set_option linter.unusedSimpArgs false
set_option linter.unusedVariables false
namespace Go.Vm
open Go Go.Proofs
attribute [local irreducible] wpL
set_option maxRecDepth 20000 in
theorem normal_ok (L : Sl StateP) (root : Int) (hL : L.l.length ≤ 128) (ht : ∀ s, s ∈ L.l → s.tn) : Pure En 20 [.agg ((AutoP.enc L root).map .p)] (normalV L.l root) := by
 refine pure_walk [(0, .agg ((AutoP.enc L root).map .p))] Tryz.func20 rfl rfl rfl fun g hwo hwt => ?_
 show Wc En _ (Tryz.f20.body.getD .skip) [] (Sx 197 _ _ _ _ _ _)
 unfold Tryz.f20
 simp only [Option.getD_some]
 refine wc_seq (wc_reg fun K hK => ?_)
 refine x_box rfl rfl rfl rfl rfl ?_
 refine x_alloc rfl rfl rfl zero24 rfl ?_
 refine x_assign rfl rfl rfl ?_
 refine x_nil (hK _ (go_seq (wc_seq (wc_seq (wc_reg fun K hK => ?_)))))
 refine x_ldLA rfl rfl rfl isag24 sz24 rfl rfl ?_
 refine x_call rfl rfl rfl (by repeat (first | exact ho_nil | refine ho_cons (by first | rfl | assumption | exact rd_ho (by assumption)) ?_)) okf13 (auto_ok L root (by omega) (fun s hs => (ht s hs).ok) _) ?_
 refine x_assign rfl rfl rfl ?_
 refine x_nil (hK _ (go_seq (wc_seq (wc_reg fun K hK => ?_))))
 refine x_move rfl rfl rfl ?_
 refine x_bin rfl rfl rfl rfl rfl ?_
 refine x_nil (hK _ (go_seq ?_))
 refine xc_cond _ rfl (fun hc0 => ?_) (fun hc0 => ?_)
 ·have hz : ¬ autoB L.l root = 0 := by simpa using hc0
  refine wc_seq (wc_reg fun K hK => ?_)
  refine x_buildU rfl rfl zero24 rfl pl24 rfl ?_
  refine x_move rfl rfl rfl ?_
  refine x_stL rfl rfl rfl sz24 rfl rfl rfl rfl ?_
  refine x_assign rfl rfl rfl ?_
  refine x_nil (hK _ (go_seq (wc_ret (go_seq_ret ?_))))
  exact x_end2 (Or.inr rfl) rfl rfl isag24 sz24 rfl rfl rfl rfl rfl rfl rfl rfl (by unfold normalV; rw [if_neg hz])
 ·have hz : autoB L.l root = 0 := by simpa using hc0
  have hr0 := (auto_lt hz).1
  have hr1 := (auto_lt hz).2.1
  obtain ⟨cnt, hco⟩ := classL_ok L.l root
  refine wc_skip (go_seq (wc_seq ?_))
  refine xc_drwQX (σ := Unit) (.two 0 2 (.two 1 2 (.one 2 (.one 3 (.one 4 (.one 5 .fin)))) (.one 1 (.one 3 (.one 4 (.one 5 .fin))))) (.one 0 (.one 1 (.one 3 (.one 4 (.one 5 .fin)))))) mixed (by kernel_rfl) [(1, _), (2, _)] [(1, _), (2, _)] (fun _ => [(5, .map (g.objs.length + 1)), (6, .p (.sl ((classL L.l root).map eInt)))]) (fun _ => g.ext [.map (esM (metL L.l (reachL L.l root))) (metL L.l (reachL L.l root)).length, .map (esI (idleD (idleB L.l root) L.l)) (idleD (idleB L.l root) L.l).length] []) (fun _ => True) (by repeat first | exact trivial | refine .intro rfl ?_) (by repeat first | exact trivial | refine .intro rfl ?_) (fun K hK => ?_) ?_
  ·refine pq_two ?_ ?_
   ·refine x_ldLA rfl rfl rfl isag24 sz24 rfl rfl ?_
    refine pq_end ?_
    refine pq_two ?_ ?_
    ·refine x_callM rfl rfl rfl (by repeat (first | exact ho_nil | refine ho_cons (by first | rfl | assumption | exact rd_ho (by assumption)) ?_)) okf43 (idle_ok (by omega) (by omega) L root (by omega) (fun s hs => (ht s hs).ok) (fun s hs => by have := (ht s hs).vars; omega) hz) ?_
     refine pq_end ?_
     refine pq_one ?_
     refine x_ldLA rfl rfl rfl isag24 sz24 rfl rfl ?_
     refine pq_end ?_
     refine pq_one ?_
     refine x_call rfl rfl rfl (by repeat (first | exact ho_nil | refine ho_cons (by first | rfl | assumption | exact rd_ho (by assumption)) ?_)) okf44 (classes_ok L root (by omega) ht hz _) ?_
     refine pq_end ?_
     refine pq_one ?_
     refine x_assign rfl rfl rfl ?_
     refine pq_end ?_
     refine pq_one ?_
     refine x_assign rfl rfl rfl ?_
     refine pq_end ?_
     refine pq_fin ?_
     exact hK () _ _ _ _ _ trivial (by repeat first | exact trivial | refine .intro rfl ?_) (by repeat first | exact trivial | refine .intro rfl ?_) rfl
    ·refine x_ldLA rfl rfl rfl isag24 sz24 rfl rfl ?_
     refine pq_end ?_
     refine pq_one ?_
     refine x_callM rfl rfl rfl (by repeat (first | exact ho_nil | refine ho_cons (by first | rfl | assumption | exact rd_ho (by assumption)) ?_)) okf43 (idle_ok (by omega) (by omega) L root (by omega) (fun s hs => (ht s hs).ok) (fun s hs => by have := (ht s hs).vars; omega) hz) ?_
     refine pq_end ?_
     refine pq_one ?_
     refine x_call rfl rfl rfl (by repeat (first | exact ho_nil | refine ho_cons (by first | rfl | assumption | exact rd_ho (by assumption)) ?_)) okf44 (classes_ok L root (by omega) ht hz _) ?_
     refine pq_end ?_
     refine pq_one ?_
     refine x_assign rfl rfl rfl ?_
     refine pq_end ?_
     refine pq_one ?_
     refine x_assign rfl rfl rfl ?_
     refine pq_end ?_
     refine pq_fin ?_
     exact hK () _ _ _ _ _ trivial (by repeat first | exact trivial | refine .intro rfl ?_) (by repeat first | exact trivial | refine .intro rfl ?_) rfl
   ·refine x_ldLA rfl rfl rfl isag24 sz24 rfl rfl ?_
    refine pq_end ?_
    refine pq_one ?_
    refine x_ldLA rfl rfl rfl isag24 sz24 rfl rfl ?_
    refine pq_end ?_
    refine pq_one ?_
    refine x_callM rfl rfl rfl (by repeat (first | exact ho_nil | refine ho_cons (by first | rfl | assumption | exact rd_ho (by assumption)) ?_)) okf43 (idle_ok (by omega) (by omega) L root (by omega) (fun s hs => (ht s hs).ok) (fun s hs => by have := (ht s hs).vars; omega) hz) ?_
    refine pq_end ?_
    refine pq_one ?_
    refine x_call rfl rfl rfl (by repeat (first | exact ho_nil | refine ho_cons (by first | rfl | assumption | exact rd_ho (by assumption)) ?_)) okf44 (classes_ok L root (by omega) ht hz _) ?_
    refine pq_end ?_
    refine pq_one ?_
    refine x_assign rfl rfl rfl ?_
    refine pq_end ?_
    refine pq_one ?_
    refine x_assign rfl rfl rfl ?_
    refine pq_end ?_
    refine pq_fin ?_
    exact hK () _ _ _ _ _ trivial (by repeat first | exact trivial | refine .intro rfl ?_) (by repeat first | exact trivial | refine .intro rfl ?_) rfl
  rintro _ b rb _
  refine go_seq (wc_seq (wc_reg fun K hK => ?_))
  obtain ⟨mo, hmo⟩ : ∃ o, o = Ob.map (esM (metL L.l (reachL L.l root))) (metL L.l (reachL L.l root)).length := ⟨_, rfl⟩
  rw [← hmo]
  obtain ⟨D, hD⟩ : ∃ D, D = idleD (idleB L.l root) L.l := ⟨_, rfl⟩
  rw [← hD]
  obtain ⟨cls, hcls⟩ : ∃ c, c = classL L.l root := ⟨_, rfl⟩
  rw [← hcls] at hco ⊢
  have hcl := hco.len
  have ecr : cls[root.toNat]? = some (clA cls root) := clA_at (by omega)
  refine x_mkmapI (i := 2) rfl rfl rfl ?_
  refine x_move rfl rfl rfl ?_
  refine x_fa rfl rfl rfl fld24_1 rfl ?_
  refine x_ldL rfl rfl rfl isag3 rfl rfl ?_
  refine x_iaI rfl rfl rfl (Rd.p cls) rfl und27 sz3 rfl hr0 ecr rfl ?_
  refine x_ldR rfl rfl rfl isag3 rfl ?_
  refine x_mapput (Or.inr rfl) rfl hwo rfl rfl rfl rfl und79 und3 rfl rfl rfl ?_
  refine x_move rfl rfl rfl ?_
  refine x_assign rfl rfl rfl ?_
  refine x_nil (hK _ (go_seq (wc_seq (wc_reg fun K hK => ?_))))
  refine x_fa rfl rfl rfl fld24_1 rfl ?_
  refine x_ldL rfl rfl rfl isag3 rfl rfl ?_
  refine x_bs rfl rfl rfl el27 sz3 zero3 rfl rfl rfl ?_
  refine x_assign rfl rfl rfl ?_
  refine x_nil (hK _ (go_seq (wc_seq (wc_reg fun K hK => ?_))))
  refine x_allocG rfl rfl rfl zero24 rfl fun G9 => ?_
  refine x_nil (hK _ (go_seq (wc_seq (wc_reg fun K hK => ?_))))
  refine x_mkmapI (i := 3) rfl rfl rfl ?_
  refine x_assign rfl rfl rfl ?_
  refine x_nil (hK _ (go_seq (wc_seq (wc_seq (wc_reg fun K hK => ?_)))))
  refine x_assign rfl rfl rfl ?_
  refine x_nil (hK _ (go_seq (wc_block ?_)))
  refine xc_loopG [(1, _), (2, _), (5, _), (6, _), (7, _), (9, _), (10, _)] [(1, _), (2, _)] (fun s : NS => [(8, .sl (s.x.ord.map eRow) s.k1), (11, .p (.int .i64 s.a))]) (fun s : NS => [(9, (G9, [s.ov, .p (.int .i64 0)]))]) (fun s : NS => g.ext s.os s.ts) (fun s : NS => NInv L.l root cls D g.objs.length g.toks.length s) (fun s : NS => s.m) ⟨L.l.length + 3, 0, ⟨[root], [], []⟩, [], .exact, none, .p .nilsl, none, [], [mo, .map (esI D) D.length, numO cls [root], .map [] 0], []⟩ (by repeat first | exact trivial | refine .intro rfl ?_) (by repeat first | exact trivial | refine .intro rfl ?_) rfl (NInv.start hcls hD ⟨hr0, hr1⟩) ?_
  rintro ⟨m, a, ⟨ord, outs, st⟩, sd, k1, o1, ov, on, rows, os, ts⟩ R0 hR1_0 hR2_0 hN b rb
  have hoff := hN.off
  have hnum := hN.num
  have hsta := hN.sta
  have hord := hN.ord
  have hlen := hord.len hco
  have hle := hN.le
  have hfu := hN.fuel
  dsimp only at hoff hnum hsta hord hlen hle hfu ⊢
  have hRo : Rd eInt (.sl (ord.map eRow) k1) ord := Rd.sl ord k1
  refine wc_seq (wc_seq (wc_reg fun K hK => ?_))
  refine x_move rfl rfl rfl ?_
  refine x_move rfl rfl rfl ?_
  refine x_len rfl rfl rfl (by first | assumption | exact Rd.enc) und27 ?_
  refine x_bin rfl rfl rfl rfl rfl ?_
  refine x_nil (hK _ (go_seq ?_))
  refine xc_cond _ rfl (fun hc1 => ?_) (fun hc1 => ?_)
  ·have hlt : a < ord.length := by simpa using hc1
   obtain ⟨k0, ek⟩ : ∃ k0, ord[a]? = some k0 := ⟨_, List.getElem?_eq_getElem hlt⟩
   have hk0 := hord.rng k0 (List.mem_of_getElem? ek)
   obtain ⟨s, es⟩ : ∃ s, L.l[k0.toNat]? = some s := ⟨_, List.getElem?_eq_getElem (by omega)⟩
   have hms : s ∈ L.l := List.mem_of_getElem? es
   have hst := ht s hms
   have hhl := hst.heads
   have hvl := hst.vars
   refine wc_skip (go_seq (wc_seq (wc_block (wc_seq ?_))))
   refine xc_drwP (.seg [0] (.adr 1 [(8, false)] (.seg [2, 3, 4] (.adr 5 [(8, false)] (.seg [6] (.adr 7 [(8, false)] (.seg [8, 9] .fin))))))) mixed (by kernel_rfl) fun K hK => ?_
   refine pl_seg ?_
   refine x_fa rfl rfl rfl fld24_0 rfl ?_
   refine pl_end ?_
   refine pl_adr rfl ?_
   refine x_ldL rfl rfl rfl isag22 rfl rfl ?_
   refine pl_end ?_
   refine pl_seg ?_
   refine x_move rfl rfl rfl ?_
   refine x_move rfl rfl rfl ?_
   refine x_ia rfl rfl rfl (by first | assumption | exact Rd.enc) rfl und27 sz3 rfl (by assumption) rfl ?_
   refine pl_end ?_
   refine pl_adr rfl ?_
   refine x_ldR rfl rfl rfl isag3 rfl ?_
   refine pl_end ?_
   refine pl_seg ?_
   refine x_iaI rfl rfl rfl Rd.enc rfl und22 sz34 rfl hk0.1 es rfl ?_
   refine pl_end ?_
   refine pl_adr rfl ?_
   refine x_ldRA rfl rfl rfl isag34 sz34 rfl ?_
   refine pl_end ?_
   refine pl_seg ?_
   refine x_alloc rfl rfl rfl zero34 rfl ?_
   refine x_stL rfl rfl rfl sz34 rfl rfl rfl rfl ?_
   refine pl_end ?_
   refine pl_fin (hK _ ?_); clear hK K
   refine go_seq (wc_seq (wc_reg fun K hK => ?_))
   refine x_fa rfl rfl rfl fld34_0 rfl ?_
   refine x_ldL rfl rfl rfl isag4 rfl rfl ?_
   refine x_buildU rfl rfl zero34 rfl pl34 rfl ?_
   refine x_allocG rfl rfl rfl zero34 rfl fun G13 => ?_
   refine x_stL rfl rfl rfl sz34 rfl rfl rfl rfl ?_
   refine x_nil (hK _ (go_seq (wc_seq (wc_seq (wc_reg fun K hK => ?_)))))
   refine x_fa rfl rfl rfl fld34_1 rfl ?_
   refine x_ldL rfl rfl rfl isag32 rfl rfl ?_
   refine x_len rfl rfl rfl (by first | assumption | exact Rd.enc) und32 ?_
   refine x_move rfl rfl rfl ?_
   refine x_nil (hK _ (go_seq (wc_block ?_)))
   refine xc_loopG [(1, _), (2, _), (5, _), (6, _), (7, _), (9, _), (10, _), (11, _), (12, _), (13, _), (69, _), (70, _)] [(1, _), (2, _), (9, _), (12, _)] (fun q : HS => [(8, .sl (q.ord.map eRow) q.k1), (71, .p (.int .i64 q.b))]) (fun q : HS => [(13, (G13, [.p (.bool s.plus), q.hv, .p .nilsl]))]) (fun q : HS => g.ext (os.set 2 (numO cls q.ord)) q.ts) (fun q : HS => HInv L.l cls g.toks.length ord s.heads.l sd q) (fun q : HS => s.heads.l.length - q.b) ⟨0, ord, [], k1, o1, .p .nilsl, [], none, ts⟩ (by repeat first | exact trivial | refine .intro rfl ?_) (by repeat first | exact trivial | refine .intro rfl ?_) (by rw [set_same hnum]) (HInv.start hN.live hord) ?_
   rintro ⟨bi, ord1, hs, k2, o2, hv, hrows, oh, ts1⟩ R1 hR1_1 hR2_1 hH b rb
   have hbl := hH.le
   have hrl := hH.rows.len
   have hsl := hH.len
   dsimp only at hbl hrl hsl ⊢
   refine wc_seq (wc_reg fun K hK => ?_)
   refine x_bin rfl rfl rfl rfl rfl ?_
   refine x_nil (hK _ (go_seq (wc_seq ?_)))
   refine xc_cond _ rfl (fun hc2 => ?_) (fun hc2 => ?_)
   ·have hlt2 : bi < s.heads.l.length := by simpa using hc2
    obtain ⟨h, eh⟩ : ∃ h, s.heads.l[bi]? = some h := ⟨_, List.getElem?_eq_getElem hlt2⟩
    have hmh : h ∈ s.heads.l := List.mem_of_getElem? eh
    have hht := hst.each h hmh
    have hkl := hht.kids
    refine wc_skip (go_seq (wc_seq (wc_block (wc_seq (wc_reg fun K hK => ?_)))))
    refine x_ia rfl rfl rfl (by first | assumption | exact Rd.enc) rfl und32 sz37 rfl (by assumption) rfl ?_
    refine x_ldRA rfl rfl rfl isag37 sz37 rfl ?_
    refine x_alloc rfl rfl rfl zero37 rfl ?_
    refine x_stL rfl rfl rfl sz37 rfl rfl rfl rfl ?_
    refine x_nil (hK _ (go_seq (wc_seq ?_)))
    refine xc_drwP (.seg [0] (.adr 1 [(8, false)] (.seg [2] (.adr 3 [(8, false)] (.seg [4, 5] (.adr 6 [(8, false)] (.seg [7, 8, 9] .fin))))))) mixed (by kernel_rfl) fun K hK => ?_
    refine pl_seg ?_
    refine x_fa rfl rfl rfl fld37_0 rfl ?_
    refine pl_end ?_
    refine pl_adr rfl ?_
    refine x_ldL rfl rfl rfl isag3 rfl rfl ?_
    refine pl_end ?_
    refine pl_seg ?_
    refine x_fa rfl rfl rfl fld37_1 rfl ?_
    refine pl_end ?_
    refine pl_adr rfl ?_
    refine x_ldL rfl rfl rfl isag35 rfl rfl ?_
    refine pl_end ?_
    refine pl_seg ?_
    refine x_call rfl rfl rfl (by repeat (first | exact ho_nil | refine ho_cons (by first | rfl | assumption | exact rd_ho (by assumption)) ?_)) okf45 (clone_ok h.names (by have := hht.names; omega) _) ?_
    refine x_fa rfl rfl rfl fld37_3 rfl ?_
    refine pl_end ?_
    refine pl_adr rfl ?_
    refine x_ldL rfl rfl rfl isag4 rfl rfl ?_
    refine pl_end ?_
    refine pl_seg ?_
    refine x_buildU rfl rfl zero37 rfl pl37 rfl ?_
    refine x_allocG rfl rfl rfl zero37 rfl fun G16 => ?_
    refine x_stL rfl rfl rfl sz37 rfl rfl rfl rfl ?_
    refine pl_end ?_
    refine pl_fin (hK _ ?_); clear hK K
    refine go_seq (wc_seq (wc_seq (wc_reg fun K hK => ?_)))
    refine x_fa rfl rfl rfl fld37_2 rfl ?_
    refine x_ldL rfl rfl rfl isag27 rfl rfl ?_
    refine x_len rfl rfl rfl (by first | assumption | exact Rd.enc) und27 ?_
    refine x_move rfl rfl rfl ?_
    refine x_nil (hK _ (go_seq (wc_block ?_)))
    refine xc_loopG [(1, _), (2, _), (5, _), (6, _), (7, _), (9, _), (10, _), (11, _), (12, _), (13, _), (16, _), (69, _), (70, _), (71, _), (84, _), (85, _)] [(1, _), (2, _), (9, _), (12, _), (13, _)] (fun q : KS => [(8, .sl (q.ord.map eRow) q.k1), (86, .p (.int .i64 q.c))]) (fun q : KS => [(16, (G16, [.p (.int .i64 h.kind), .p (h.names.enc eStr), q.kv, .p (.bool h.op)]))]) (fun q : KS => g.ext (os.set 2 (numO cls q.ord)) q.ts) (fun q : KS => KInv L.l cls g.toks.length ord1 h.kids.l (⟨4, hv, hrows, oh⟩ :: sd.map SD.acc) q) (fun q : KS => h.kids.l.length - q.c) ⟨0, ord1, [], k2, o2, .p .nilsl, none, ts1⟩ (by repeat first | exact trivial | refine .intro rfl ?_) (by repeat first | exact trivial | refine .intro rfl ?_) rfl (KInv.start hH.live hH.ord) ?_
    rintro ⟨c, ord2, kn, k3, o3, kv, ok, ts2⟩ R2 hR1_2 hR2_2 hKi b rb
    have hkc := hKi.le
    have hknl := hKi.len
    have hord2 := hKi.ord
    have hlen2 := hord2.len hco
    dsimp only at hkc hknl hord2 hlen2 ⊢
    have hRo2 : Rd eInt (.sl (ord2.map eRow) k3) ord2 := Rd.sl ord2 k3
    refine wc_seq (wc_reg fun K hK => ?_)
    refine x_bin rfl rfl rfl rfl rfl ?_
    refine x_nil (hK _ (go_seq (wc_seq ?_)))
    refine xc_cond _ rfl (fun hc3 => ?_) (fun hc3 => ?_)
    ·have hlt3 : c < h.kids.l.length := by simpa using hc3
     obtain ⟨kq, eq⟩ : ∃ q, h.kids.l[c]? = some q := ⟨_, List.getElem?_eq_getElem hlt3⟩
     have hqr := auto_kid hz hms hmh (List.mem_of_getElem? eq)
     have ecq : cls[kq.toNat]? = some (clA cls kq) := clA_at (by omega)
     refine wc_skip (go_seq (wc_seq (wc_block (wc_seq (wc_reg fun K hK => ?_)))))
     refine x_ia rfl rfl rfl (by first | assumption | exact Rd.enc) rfl und27 sz3 rfl (by assumption) rfl ?_
     refine x_ldR rfl rfl rfl isag3 rfl ?_
     refine x_assign rfl rfl rfl ?_
     refine x_nil (hK _ (go_seq (wc_seq (wc_reg fun K hK => ?_))))
     refine x_move rfl rfl rfl ?_
     refine x_move rfl rfl rfl ?_
     refine x_move rfl rfl rfl ?_
     refine x_iaI rfl rfl rfl (Rd.p cls) rfl und27 sz3 rfl hqr.1 ecq rfl ?_
     refine x_ldR rfl rfl rfl isag3 rfl ?_
     refine x_lookup rfl rfl rfl rfl (set2_get hnum) und79 und3 zv3 rfl (esC_ok _) (findC _ _) ?_
     refine x_move rfl rfl rfl ?_
     refine x_extract rfl rfl rfl rfl ?_
     refine x_extract rfl rfl rfl rfl ?_
     refine x_assign rfl rfl rfl ?_
     refine x_assign rfl rfl rfl ?_
     refine x_nil (hK _ (go_seq (wc_seq (wc_seq (wc_reg fun K hK => ?_)))))
     refine x_move rfl rfl rfl ?_
     refine x_not rfl rfl rfl ?_
     refine x_nil (hK _ (go_seq ?_))
     refine xc_cond _ rfl (fun hc4 => ?_) (fun hc4 => ?_)
     ·have hn : clA cls kq ∉ ord2.map (clA cls) := by simpa using hc4
      refine wc_seq (wc_reg fun K hK => ?_)
      refine x_move rfl rfl rfl ?_
      refine x_len rfl rfl rfl (by first | assumption | exact Rd.enc) und27 ?_
      refine x_assign rfl rfl rfl ?_
      refine x_nil (hK _ (go_seq (wc_seq (wc_reg fun K hK => ?_))))
      refine x_move rfl rfl rfl ?_
      refine x_move rfl rfl rfl ?_
      refine x_move rfl rfl rfl ?_
      refine x_iaI rfl rfl rfl (Rd.p cls) rfl und27 sz3 rfl hqr.1 ecq rfl ?_
      refine x_ldR rfl rfl rfl isag3 rfl ?_
      refine x_move rfl rfl rfl ?_
      refine x_mapput (Or.inl rfl) rfl hwo rfl rfl rfl (set2_get hnum) und79 und3 rfl (esC_ok _) rfl ?_
      refine x_nil (hK _ (go_seq (wc_reg fun K hK => ?_)))
      rw [List.set_set, num_put hn]
      refine x_move rfl rfl rfl ?_
      refine x_move rfl rfl rfl ?_
      refine x_bs rfl rfl rfl el27 sz3 zero3 rfl rfl rfl ?_
      refine x_appI (i := 0) (xs := ord2) rfl rfl rfl hwt rfl rfl el27 und27 zero3 inf3 rfl hKi.live rfl (by omega) (fun kk1 ox1 tx1 hl1 => ?_)
      refine x_assign rfl rfl rfl ?_
      refine x_nil (hK _ (go_seq (wc_reg fun K hK => ?_)))
      first | (have hlv := hl1) | (have hlv := hKi.live)
      refine x_fa rfl rfl rfl fld37_2 rfl ?_
      refine x_ldL rfl rfl rfl isag27 rfl rfl ?_
      refine x_move rfl rfl rfl ?_
      refine x_bs rfl rfl rfl el27 sz3 zero3 rfl rfl rfl ?_
      refine x_appI (i := 1) (xs := kn) rfl rfl rfl hwt rfl rfl el27 und27 zero3 inf3 rfl hlv rfl (by omega) (fun kk2 ox2 tx2 hl2 => ?_)
      refine x_fa rfl rfl rfl fld37_2 rfl ?_
      refine x_stL rfl rfl rfl sz27 rfl rfl rfl rfl ?_
      refine x_nil (hK _ (go_blk (go_seq (wc_reg fun K hK => ?_))))
      refine x_inc rfl rfl rfl rfl (by omega) ?_
      refine x_move rfl rfl rfl ?_
      refine x_nil (hK _ ?_); clear hK K
      exact hR1_2 ⟨c + 1, ord2 ++ [kq], kn ++ [((ord2.length : Nat) : Int)], kk1, ox1, .sl ((kn ++ [((ord2.length : Nat) : Int)]).map eRow) kk2, ox2, tx2⟩ _ _ _ _ _ (hKi.new eq hqr hn hl2) (by show h.kids.l.length - (c + 1) < h.kids.l.length - c; omega) (by repeat first | exact trivial | refine .intro rfl ?_) (by repeat first | exact trivial | refine .intro rfl ?_) rfl
     ·have hn : clA cls kq ∈ ord2.map (clA cls) := by simpa using hc4
      rw [if_pos hn]
      refine wc_skip (go_seq (wc_reg fun K hK => ?_))
      first | (have hlv := hl1) | (have hlv := hKi.live)
      refine x_fa rfl rfl rfl fld37_2 rfl ?_
      refine x_ldL rfl rfl rfl isag27 rfl rfl ?_
      refine x_move rfl rfl rfl ?_
      refine x_bs rfl rfl rfl el27 sz3 zero3 rfl rfl rfl ?_
      refine x_appI (i := 1) (xs := kn) rfl rfl rfl hwt rfl rfl el27 und27 zero3 inf3 rfl hlv rfl (by omega) (fun kk2 ox2 tx2 hl2 => ?_)
      refine x_fa rfl rfl rfl fld37_2 rfl ?_
      refine x_stL rfl rfl rfl sz27 rfl rfl rfl rfl ?_
      refine x_nil (hK _ (go_blk (go_seq (wc_reg fun K hK => ?_))))
      refine x_inc rfl rfl rfl rfl (by omega) ?_
      refine x_move rfl rfl rfl ?_
      refine x_nil (hK _ ?_); clear hK K
      exact hR1_2 ⟨c + 1, ord2, kn ++ [((idxI (ord2.map (clA cls)) (clA cls kq) : Nat) : Int)], k3, o3, .sl ((kn ++ [((idxI (ord2.map (clA cls)) (clA cls kq) : Nat) : Int)]).map eRow) kk2, ox2, tx2⟩ _ _ _ _ _ (hKi.old eq hn hl2) (by show h.kids.l.length - (c + 1) < h.kids.l.length - c; omega) (by repeat first | exact trivial | refine .intro rfl ?_) (by repeat first | exact trivial | refine .intro rfl ?_) rfl
    ·have hk3 : h.kids.l.length ≤ c := by simp at hc3; omega
     refine wc_exit ?_
     refine go_seq_exit ?_
     refine hR2_2 _ _ (by simp) ?_
     refine go_blk_exit (go_seq (wc_reg fun K hK => ?_))
     refine x_fa rfl rfl rfl fld34_1 rfl ?_
     refine x_ldL rfl rfl rfl isag32 rfl rfl ?_
     refine x_ldLA rfl rfl rfl isag37 sz37 rfl rfl ?_
     refine x_bs rfl rfl rfl el32 sz37 zero37 rfl rfl (fill4 hKi.val.one) ?_
     refine x_appG (i := 2) (a := ⟨4, hv, hrows, oh⟩) rfl rfl rfl hwt rfl rfl el32 und32 zero37 inf37 rfl hKi.live rfl rfl (headR_ok hH.rows) (hrow_ok hKi.val.one) (by show (hrows.length + 1) * 64 ≤ _; omega) (fun kk3 ox3 tx3 hl3 => ?_)
     refine x_fa rfl rfl rfl fld34_1 rfl ?_
     refine x_stL rfl rfl rfl sz32 rfl rfl rfl rfl ?_
     refine x_nil (hK _ (go_blk (go_seq (wc_reg fun K hK => ?_))))
     refine x_inc rfl rfl rfl rfl (by omega) ?_
     refine x_move rfl rfl rfl ?_
     refine x_nil (hK _ ?_); clear hK K
     exact hR1_1 ⟨bi + 1, ord2, hs ++ [⟨h.kind, h.names, Sl.of kn, h.op⟩], k3, o3, .sl (hrows ++ [[.p (.int .i64 h.kind), .p (h.names.enc eStr), kv, .p (.bool h.op)]]) kk3, hrows ++ [[.p (.int .i64 h.kind), .p (h.names.enc eStr), kv, .p (.bool h.op)]], ox3, tx3⟩ _ _ _ _ _ (hH.next eh hKi hk3 hl3) (by show s.heads.l.length - (bi + 1) < s.heads.l.length - bi; omega) (by repeat first | exact trivial | refine .intro rfl ?_) (by repeat first | exact trivial | refine .intro rfl ?_) rfl
   ·have hb3 : s.heads.l.length ≤ bi := by simp at hc2; omega
    refine wc_exit ?_
    refine go_seq_exit ?_
    refine hR2_1 _ _ (by simp) ?_
    refine go_blk_exit (go_seq (wc_seq (wc_seq (wc_reg fun K hK => ?_))))
    refine x_fa rfl rfl rfl fld34_2 rfl ?_
    refine x_ldL rfl rfl rfl isag27 rfl rfl ?_
    refine x_len rfl rfl rfl (by first | assumption | exact Rd.enc) und27 ?_
    refine x_move rfl rfl rfl ?_
    refine x_nil (hK _ (go_seq (wc_block ?_)))
    refine xc_loopG [(1, _), (2, _), (5, _), (6, _), (7, _), (8, _), (9, _), (10, _), (11, _), (12, _), (13, _), (69, _), (70, _), (71, _), (128, _), (129, _)] [(1, _), (2, _), (9, _), (12, _), (13, _)] (fun w : WS => [(130, .p (.int .i64 w.c))]) (fun w : WS => []) (fun w : WS => g.ext ((os.set 2 (numO cls ord1)).set 3 (.map (esD w.sd) w.sd.length)) w.ts) (fun w : WS => WInv D g.toks.length (ordA ord1 k2 o2) a st s.vars.l w) (fun w : WS => s.vars.l.length - w.c) ⟨0, sd, ts1⟩ (by repeat first | exact trivial | refine .intro rfl ?_) (by repeat first | exact trivial | refine .intro rfl ?_) (by rw [set3_same hsta]) ⟨Nat.zero_le _, hN.sdp.symm, hH.live.drop1, fun e he => ⟨(hN.sdb e he).1, fun q hq => by have := (hN.sdb e he).2 q hq; dsimp only at this; omega⟩, hN.sdn⟩ ?_
    rintro ⟨vc, sd1, ts2⟩ R3 hR1_3 hR2_3 hW b rb
    have hwl := hW.le
    have hwc := hW.cnt
    dsimp only at hwl hwc ⊢
    refine wc_seq (wc_reg fun K hK => ?_)
    refine x_bin rfl rfl rfl rfl rfl ?_
    refine x_nil (hK _ (go_seq (wc_seq ?_)))
    refine xc_cond _ rfl (fun hc5 => ?_) (fun hc5 => ?_)
    ·have hlt4 : vc < s.vars.l.length := by simpa using hc5
     obtain ⟨v, ev⟩ : ∃ v, s.vars.l[vc]? = some v := ⟨_, List.getElem?_eq_getElem hlt4⟩
     refine wc_skip (go_seq (wc_seq (wc_block (wc_seq (wc_reg fun K hK => ?_)))))
     refine x_ia rfl rfl rfl (by first | assumption | exact Rd.enc) rfl und27 sz3 rfl (by assumption) rfl ?_
     refine x_ldR rfl rfl rfl isag3 rfl ?_
     refine x_assign rfl rfl rfl ?_
     refine x_nil (hK _ (go_seq (wc_seq (wc_reg fun K hK => ?_))))
     refine x_move rfl rfl rfl ?_
     refine x_move rfl rfl rfl ?_
     refine x_lookup rfl rfl rfl rfl (set3_off hoff) und71 und3 zv4 rfl (esI_ok _) (findI _ _) ?_
     refine x_not rfl rfl rfl ?_
     refine x_nil (hK _ (go_seq ?_))
     refine xc_cond _ rfl (fun hc6 => ?_) (fun hc6 => ?_)
     ·have hvn : v ∉ D := by simpa using hc6
      obtain ⟨sv, xs, so, A1, ia, hs1, hs2, hs3, hs4, hs5, hs6⟩ := stand_step (v := v) (a := (a : Int)) (n := 1024 * a + vc) hW.live (fun e he => (hW.bnd e he).1)
      refine wc_reg fun K hK => ?_
      refine x_move rfl rfl rfl ?_
      refine x_move rfl rfl rfl ?_
      refine x_move rfl rfl rfl ?_
      refine x_move rfl rfl rfl ?_
      refine x_lookup rfl rfl rfl rfl (set3_get hsta) und80 und3 zv27 rfl (esD_ok _) hs1 ?_
      refine x_move rfl rfl rfl ?_
      refine x_bs rfl rfl rfl el27 sz3 zero3 rfl rfl rfl ?_
      refine x_appG (i := ia) (a := ⟨1, sv, xs, so⟩) rfl rfl rfl hwt rfl rfl el27 und27 zero3 inf3 rfl hs2 hs3 rfl hs5 rfl (by show (xs.length + 1) * 8 ≤ _; omega) (fun kk3 ox3 tx3 hl3 => ?_)
      refine x_mapput (Or.inl rfl) rfl hwo rfl rfl rfl (set3_get hsta) und80 und3 rfl (esD_ok _) rfl ?_
      refine x_nil (hK _ (go_blk (go_seq (wc_reg fun K hK => ?_))))
      refine x_inc rfl rfl rfl rfl (by omega) ?_
      refine x_move rfl rfl rfl ?_
      refine x_nil (hK _ ?_); clear hK K
      obtain ⟨sd2, hq1, hq2, hq3, hq4, hq5⟩ := hs6 kk3 ox3 tx3 hl3
      exact hR1_3 ⟨vc + 1, sd2, tx3⟩ _ _ _ _ _ (hW.put ev hvn hq1 hq3 hq4 hq5) (by show s.vars.l.length - (vc + 1) < s.vars.l.length - vc; omega) (by repeat first | exact trivial | refine .intro rfl ?_) (by repeat first | exact trivial | refine .intro rfl ?_) (by show g.ext _ _ = g.ext (((os.set 2 (numO cls ord1)).set 3 _).set 3 (Ob.map (insK (esD sd1) (.int .i64 v) (.sl (xs ++ [eRow a]) kk3) sd1.length) (insC (esD sd1) (.int .i64 v) sd1.length))) _; rw [hq2, List.set_set])
     ·refine wc_skip (go_blk (go_seq (wc_reg fun K hK => ?_)))
      refine x_inc rfl rfl rfl rfl (by omega) ?_
      refine x_move rfl rfl rfl ?_
      refine x_nil (hK _ ?_); clear hK K
      exact hR1_3 ⟨vc + 1, sd1, ts2⟩ _ _ _ _ _ (hW.skip ev (by simpa using hc6)) (by show s.vars.l.length - (vc + 1) < s.vars.l.length - vc; omega) (by repeat first | exact trivial | refine .intro rfl ?_) (by repeat first | exact trivial | refine .intro rfl ?_) rfl
    ·have hv3 : s.vars.l.length ≤ vc := by simp at hc5; omega
     have hrn := hN.out.len
     have hal := hN.al
     have hge := hN.ge
     rw [List.length_map] at hrn
     dsimp only at hrn hal hge
     refine wc_exit ?_
     refine go_seq_exit ?_
     refine hR2_3 _ _ (by simp) ?_
     refine go_blk_exit (go_seq (wc_reg fun K hK => ?_))
     refine x_fa rfl rfl rfl fld24_0 rfl ?_
     refine x_ldL rfl rfl rfl isag22 rfl rfl ?_
     refine x_ldLA rfl rfl rfl isag34 sz34 rfl rfl ?_
     refine x_bs rfl rfl rfl el22 sz34 zero34 rfl rfl (fill3 hH.heads.one rfl) ?_
     refine x_appO (n := rows.length) (cs := rows.flatten) (o := on) rfl rfl rfl hwo rfl rfl el22 und22 zero34 inf34 rfl (srow_ok hH.heads.one rfl) (by show (rows.length + 1) * 56 ≤ _; omega) (arr_keep hN.arr fun i hi => by have := hge i hi; rw [List.getElem?_set_ne (by omega), List.getElem?_set_ne (by omega)]) ?_
     refine x_fa rfl rfl rfl fld24_0 rfl ?_
     refine x_stL rfl rfl rfl sz22 rfl rfl rfl rfl ?_
     refine x_nil (hK _ (go_blk (go_seq (wc_reg fun K hK => ?_))))
     refine x_move rfl rfl rfl ?_
     refine x_inc rfl rfl rfl rfl (by omega) ?_
     refine x_assign rfl rfl rfl ?_
     refine x_nil (hK _ ?_); clear hK K
     obtain ⟨m, rfl⟩ : ∃ m', m = m' + 1 := ⟨m - 1, by omega⟩
     exact hR1_0 ⟨m, a + 1, ⟨ord1, outs ++ [(s.plus, hs)], sd1.map SD.pr⟩, sd1, k2, o2, .arr (g.objs.length + ((os.set 2 (numO cls ord1)).set 3 (.map (esD sd1) sd1.length)).length) 0 (rows.length + 1) (rows.length + 1) 3, some ((os.set 2 (numO cls ord1)).set 3 (.map (esD sd1) sd1.length)).length, rows ++ [[.p (.bool s.plus), hv, .p .nilsl]], osKill ((os.set 2 (numO cls ord1)).set 3 (.map (esD sd1) sd1.length)) on ++ [.cells (rows.flatten ++ [[.p (.bool s.plus), hv, .p .nilsl]].flatten)], ts2⟩ _ _ _ _ _ (hN.next ek es hH hb3 hvl rfl hW hv3) (Nat.lt_succ_self m) (by repeat first | exact trivial | refine .intro rfl ?_) (by repeat first | exact trivial | refine .intro rfl ?_) rfl
  ·have hge1 : ord.length ≤ a := by simp at hc1; omega
   have hfin := hN.fin hge1
   have hrn := hN.out.len
   have hal := hN.al
   have hge := hN.ge
   have hsdn := hN.sdn
   have hone := hord.ne
   rw [List.length_map] at hrn
   dsimp only at hrn hal hge hfin hsdn
   obtain ⟨io, hov, hon, hio⟩ := arr_get hN.arr (by show 0 < rows.length; omega)
   dsimp only at hov hon hio
   subst hov
   have hio4 := hge io hon
   have hiol := (List.getElem?_eq_some_iff.1 hio).1
   refine wc_exit ?_
   refine go_seq_exit ?_
   refine hR2_0 _ _ (by simp) ?_
   refine go_blk_exit (go_seq (wc_seq (wc_reg fun K hK => ?_)))
   refine x_assign rfl rfl rfl ?_
   refine x_nil (hK _ (go_seq (wc_seq (wc_seq (wc_reg fun K hK => ?_)))))
   refine x_move rfl rfl rfl ?_
   refine x_range rfl rfl rfl und80 hsta ?_
   refine x_nil (hK _ (go_seq (wc_block ?_)))
   refine xc_loopG [(1, _), (2, _), (5, _), (6, _), (7, _), (8, _), (9, _), (10, _), (11, _), (154, _)] [(1, _), (2, _), (9, _)] (fun x : List Nat × Nat × V × List V × List (List Int) × Option Nat × List Ob => [(23, x.2.2.1)]) (fun x : List Nat × Nat × V × List V × List (List Int) × Option Nat × List Ob => []) (fun x : List Nat × Nat × V × List V × List (List Int) × Option Nat × List Ob => g.ext x.2.2.2.2.2.2 ts) (fun x : List Nat × Nat × V × List V × List (List Int) × Option Nat × List Ob => IInv g.objs.length sd os.length io rows.flatten x.2.2.2.2.2.2 x.1 x.2.1 x.2.2.1 x.2.2.2.1 x.2.2.2.2.1 x.2.2.2.2.2.1) (fun x : List Nat × Nat × V × List V × List (List Int) × Option Nat × List Ob => sd.length - x.1.length) ([], sd.length, .p .nilsl, [], [], none, os ++ [.iter (some (g.objs.length + 3)) sd.length [] sd.length]) (by repeat first | exact trivial | refine .intro rfl ?_) (by repeat first | exact trivial | refine .intro rfl ?_) rfl (IInv.start hsta hio hio4) ?_
   rintro ⟨seen, stp, rv, rcs, us, ro, os2⟩ R4 hR1_4 hR2_4 hI b rb
   dsimp only at hI ⊢
   have hit := (List.getElem?_eq_some_iff.1 hI.iter).1
   have husl := hI.le
   have hrv := arr_one hI.arr
   refine wc_seq ?_
   refine xc_regX 0 fun K hK => ?_
   refine x_nil ?_
   refine ev_next rfl rfl hwo rfl hI.iter hI.sta (fun e he => esD_lt he) hI.hstep (fun hn155 => ?_) (fun en155 he155 hne155 => ?_)
   ·have hp := hI.perm hn155
    have hub : ∀ u, u ∈ us → u.length ≤ 140000 ∧ ∀ q, q ∈ u → 0 ≤ q ∧ q < a := fun u hu => by
     obtain ⟨e, he, rfl⟩ := List.mem_map.1 (hp.mem_iff.1 hu)
     have := (hN.sdb e he).1
     exact ⟨by dsimp only at this; omega, (hN.sdb e he).2⟩
    refine x_extract rfl rfl rfl rfl ?_
    refine x_nil (hK _ (go_seq (wc_seq ?_)))
    refine xc_cond false rfl (fun h => by cases h) (fun _ => ?_)
    refine wc_exit ?_
    refine go_seq_exit ?_
    refine hR2_4 _ _ (by simp) ?_
    refine go_blk_exit (go_seq (wc_seq ?_))
    refine xc_regX 1 fun K hK => ?_
    refine x_move rfl rfl rfl ?_
    refine x_nil ?_
    refine ev_callR _ rfl rfl rfl (by repeat (first | exact ho_nil | refine ho_cons (by first | rfl | assumption | exact rd_ho (by assumption)) ?_)) okf46 (sortF_at hwo hI.arr hI.rows (fun u hu => by have := (hub u hu).1; omega) (by omega) (fun i hi => (hI.ro i hi).2)) (fun r164 g164 hq164 => ?_)
    obtain ⟨rfl, os3, cs3, rfl, ha3, hr3, hlen3, hf3⟩ := hq164
    have hrv3 := arr_one ha3
    have hsl3 := srtL_len us
    refine x_nil (hK _ (go_seq (wc_seq ?_)))
    refine xc_regX 1 fun K hK => ?_
    refine x_move rfl rfl rfl ?_
    refine x_nil ?_
    refine ev_callR _ rfl rfl rfl (by repeat (first | exact ho_nil | refine ho_cons (by first | rfl | assumption | exact rd_ho (by assumption)) ?_)) okf48 (compactF_at hwo hwt (by rw [srtL_len]; exact ha3) hr3 (fun u hu => by have := (hub u ((srtL_perm us).mem_iff.1 hu)).1; omega) (by omega)) (fun r166 g166 hq166 => ?_)
    obtain ⟨os4, rfl, hR4, hlen4, hf4⟩ := hq166
    have hRn := rows_eq hp hN.sdp
    dsimp only at hRn
    have hRb : ∀ u, u ∈ compU (srtL us) (srtL us).length → u.length ≤ 140000 ∧ ∀ q, q ∈ u → 0 ≤ q ∧ q < a := fun u hu => hub u ((srtL_perm us).mem_iff.1 (compU_mem (Nat.le_refl _) hu))
    have hRl := compU_le (srtL us) (srtL us).length
    obtain ⟨RR, hRR⟩ : ∃ R, R = compU (srtL us) (srtL us).length := ⟨_, rfl⟩
    rw [← hRR] at hR4 hRn hRb hRl
    have hrio : ∀ j, ro = some j → os.length < j := fun j hj => (hI.ro j hj).1
    have hio5 : os4[io]? = some (.cells rows.flatten) := by
     rw [hf4 io (fun e => by have := hrio io e; omega), hf3 io (fun e => by have := hrio io e; omega)]; exact hI.out
    refine x_assign rfl rfl rfl ?_
    refine x_nil (hK _ (go_seq (wc_seq (wc_seq (wc_reg fun K hK => ?_)))))
    refine x_move rfl rfl rfl ?_
    refine x_lenR rfl rfl rfl und83 hR4 ?_
    refine x_move rfl rfl rfl ?_
    refine x_nil (hK _ (go_seq (wc_block ?_)))
    refine xc_loopG [(1, _), (2, _), (5, _), (6, _), (7, _), (8, _), (9, _), (10, _), (11, _), (23, _), (154, _), (167, _), (168, _)] [(1, _), (2, _), (9, _)] (fun u : US => [(169, .p (.int .i64 u.b))]) (fun u : US => []) (fun u : US => g.ext (os4.set io (.cells u.rows.flatten)) u.ts) (fun u : US => UInv g.toks.length outs RR u) (fun u : US => RR.length - u.b) ⟨0, rows, List.replicate outs.length ⟨1, .p .nilsl, [], none⟩, List.replicate outs.length [], ts⟩ (by repeat first | exact trivial | refine .intro rfl ?_) (by repeat first | exact trivial | refine .intro rfl ?_) (by rw [set_same hio5]) (UInv.start hN.out) ?_
    rintro ⟨bq, rows5, A5, vs5, ts5⟩ R5 hR1_5 hR2_5 hU b rb
    have hub5 := hU.le
    dsimp only at hub5 ⊢
    refine wc_seq (wc_reg fun K hK => ?_)
    refine x_bin rfl rfl rfl rfl rfl ?_
    refine x_nil (hK _ (go_seq (wc_seq ?_)))
    refine xc_cond _ rfl (fun hc7 => ?_) (fun hc7 => ?_)
    ·have hlt5 : bq < RR.length := by simpa using hc7
     obtain ⟨ir, cap, CC, nz, hrv4, hro4, hor, hRc⟩ := row_get hR4 (by omega)
     obtain ⟨l, el⟩ : ∃ l, RR[bq]? = some l := ⟨_, List.getElem?_eq_getElem hlt5⟩
     have hlb := hRb l (List.mem_of_getElem? el)
     have hCl := hRc.1
     obtain ⟨kq, hkq⟩ := hRc.2 bq _ l (List.getElem?_eq_getElem (show bq < CC.length by omega)) el
     have hirn := hrio ir hro4
     have hget : (CC ++ nz)[0 + ((bq : Nat) : Int).toNat * 1]? = some (.sl (l.map fun a => [V.p (.int .i64 a)]) kq) := by
      rw [show 0 + ((bq : Nat) : Int).toNat * 1 = bq by omega, List.getElem?_append_left (by omega), List.getElem?_eq_getElem (show bq < CC.length by omega), hkq]
     have hRd5 : Rd eInt (.sl (l.map fun a => [V.p (.int .i64 a)]) kq) l := Rd.sl l kq
     refine wc_skip (go_seq (wc_seq (wc_block (wc_seq (wc_reg fun K hK => ?_)))))
     refine x_move rfl rfl rfl ?_
     refine x_iaA (id := g.objs.length + ir) (off := 0) (len := RR.length) (cap := cap) rfl rfl (by rw [← hrv4]; rfl) rfl und83 sz27 rfl (by omega) (by omega) ?_
     refine x_ldO rfl rfl rfl isag27 (by rw [ext_obj, List.getElem?_set_ne (by omega)]; exact hor) hget ?_
     refine x_assign rfl rfl rfl ?_
     refine x_assign rfl rfl rfl ?_
     refine x_nil (hK _ (go_seq (wc_seq (wc_reg fun K hK => ?_))))
     refine x_move rfl rfl rfl ?_
     refine x_len rfl rfl rfl (by first | assumption | exact Rd.enc) und27 ?_
     refine x_move rfl rfl rfl ?_
     refine x_nil (hK _ (go_seq (wc_block ?_)))
     refine xc_loopG [(1, _), (2, _), (5, _), (6, _), (7, _), (8, _), (9, _), (10, _), (11, _), (23, _), (26, _), (154, _), (167, _), (168, _), (169, _), (174, _), (175, _)] [(1, _), (2, _), (9, _)] (fun u : US => [(176, .p (.int .i64 u.b))]) (fun u : US => []) (fun u : US => g.ext (os4.set io (.cells u.rows.flatten)) u.ts) (fun u : US => QInv g.toks.length outs bq l vs5 u) (fun u : US => l.length - u.b) ⟨0, rows5, A5, vs5, ts5⟩ (by repeat first | exact trivial | refine .intro rfl ?_) (by repeat first | exact trivial | refine .intro rfl ?_) rfl ⟨hU.v, Nat.zero_le _, rfl, fun i => Nat.le_trans (hU.bnd i) (Nat.le_add_right _ _)⟩ ?_
     rintro ⟨c, rows6, A6, vs6, ts6⟩ R6 hR1_6 hR2_6 hQ b rb
     have hqb := hQ.le
     dsimp only at hqb ⊢
     refine wc_seq (wc_reg fun K hK => ?_)
     refine x_bin rfl rfl rfl rfl rfl ?_
     refine x_nil (hK _ (go_seq (wc_seq ?_)))
     refine xc_cond _ rfl (fun hc8 => ?_) (fun hc8 => ?_)
     ·have hlt6 : c < l.length := by simpa using hc8
      obtain ⟨iv, ev⟩ : ∃ iv, l[c]? = some iv := ⟨_, List.getElem?_eq_getElem hlt6⟩
      have hivr := hlb.2 iv (List.mem_of_getElem? ev)
      obtain ⟨q, hq⟩ : ∃ q, outs[iv.toNat]? = some q := ⟨_, List.getElem?_eq_getElem (by omega)⟩
      obtain ⟨hv, vv, ov, e1, e2, e3, e4⟩ := hQ.v.at_ iv.toNat q hq
      have hrl6 := hQ.v.lr
      have hvb := hQ.bnd iv.toNat
      dsimp only at e1 e2 hrl6 hvb
      have hf6 : rows6.flatten[iv.toNat * 3 + 2]? = some vv := by rw [flat_at hQ.v.len3 e1 (by omega)]; rfl
      have hf7 : rows6.flatten[0 + iv.toNat * 3 + 2]? = some vv := by rw [Nat.zero_add]; exact hf6
      have hf8 := (List.getElem?_eq_some_iff.1 hf7).1
      refine wc_skip (go_seq (wc_seq (wc_block (wc_seq (wc_reg fun K hK => ?_)))))
      refine x_ia rfl rfl rfl (by first | assumption | exact Rd.enc) rfl und27 sz3 rfl (by assumption) rfl ?_
      refine x_ldR rfl rfl rfl isag3 rfl ?_
      refine x_assign rfl rfl rfl ?_
      refine x_nil (hK _ (go_seq ?_))
      refine xc_drwP (.seg [0] (.adr 1 [(11, false)] (.seg [2, 3, 4, 5, 6, 7, 8, 9, 10, 11, 12, 13, 14] .fin))) mixed (by kernel_rfl) fun K hK => ?_
      refine pl_seg ?_
      refine x_fa rfl rfl rfl fld24_0 rfl ?_
      refine pl_end ?_
      refine pl_adr rfl ?_
      refine x_ldL rfl rfl rfl isag22 rfl rfl ?_
      refine pl_end ?_
      refine pl_seg ?_
      refine x_move rfl rfl rfl ?_
      refine x_fa rfl rfl rfl fld24_0 rfl ?_
      refine x_ldL rfl rfl rfl isag22 rfl rfl ?_
      refine x_move rfl rfl rfl ?_
      refine x_iaA rfl rfl rfl rfl und22 sz34 rfl hivr.1 (by omega) ?_
      refine x_fa rfl rfl rfl fld34_2 rfl ?_
      refine x_ldO rfl rfl rfl isag27 (by rw [ext_obj]; exact List.getElem?_set_self (by omega)) hf7 ?_
      refine x_move rfl rfl rfl ?_
      refine x_bs rfl rfl rfl el27 sz3 zero3 rfl rfl rfl ?_
      refine x_appG (i := iv.toNat) (a := ⟨1, vv, (vs6.getD iv.toNat []).map eRow, ov⟩) rfl rfl rfl hwt rfl rfl el27 und27 zero3 inf3 rfl hQ.v.live e2 rfl (rowsI_ok _) rfl (by show (((vs6.getD iv.toNat []).map eRow).length + 1) * 8 ≤ _; rw [List.length_map]; omega) (fun kk7 ox7 tx7 hl7 => ?_)
      refine x_iaA rfl rfl rfl rfl und22 sz34 rfl hivr.1 (by omega) ?_
      refine x_fa rfl rfl rfl fld34_2 rfl ?_
      refine x_stP (n := 0) rfl hwo rfl rfl sz27 rfl rfl (List.getElem?_set_self (by omega)) hf8 ?_
      refine pl_end ?_
      refine pl_fin (hK _ ?_); clear hK K
      refine go_blk (go_seq (wc_reg fun K hK => ?_))
      refine x_inc rfl rfl rfl rfl (by omega) ?_
      refine x_move rfl rfl rfl ?_
      refine x_nil (hK _ ?_); clear hK K
      exact hR1_6 ⟨c + 1, rows6.set iv.toNat [.p (.bool q.1), hv, .sl ((vs6.getD iv.toNat []).map eRow ++ [eRow ((bq : Nat) : Int)]) kk7], A6.set iv.toNat ⟨1, .sl ((vs6.getD iv.toNat []).map eRow ++ [eRow ((bq : Nat) : Int)]) kk7, (vs6.getD iv.toNat []).map eRow ++ [eRow ((bq : Nat) : Int)], ox7⟩, vs6.set iv.toNat (vs6.getD iv.toNat [] ++ [((bq : Nat) : Int)]), tx7⟩ _ _ _ _ _ (hQ.next ev hq e1 hl7) (by show l.length - (c + 1) < l.length - c; omega) (by repeat first | exact trivial | refine .intro rfl ?_) (by repeat first | exact trivial | refine .intro rfl ?_) (by rw [List.set_set, show 0 + iv.toNat * 3 + 2 = iv.toNat * 3 + 2 by omega, flat_set hQ.v.len3 e1 (by omega)]; rfl)
     ·refine wc_exit ?_
      refine go_seq_exit ?_
      refine hR2_6 _ _ (by simp) ?_
      refine go_blk_exit (go_blk (go_seq (wc_reg fun K hK => ?_)))
      refine x_inc rfl rfl rfl rfl (by omega) ?_
      refine x_move rfl rfl rfl ?_
      refine x_nil (hK _ ?_); clear hK K
      exact hR1_5 ⟨bq + 1, rows6, A6, vs6, ts6⟩ _ _ _ _ _ (hU.next el hlb.1 hQ (by simp at hc8; omega)) (by show RR.length - (bq + 1) < RR.length - bq; omega) (by repeat first | exact trivial | refine .intro rfl ?_) (by repeat first | exact trivial | refine .intro rfl ?_) rfl
    ·refine wc_exit ?_
     refine go_seq_exit ?_
     refine hR2_5 _ _ (by simp) ?_
     refine go_blk_exit (go_seq (wc_seq (wc_reg fun K hK => ?_)))
     refine x_ldLA rfl rfl rfl isag24 sz24 rfl rfl ?_
     refine x_stL rfl rfl rfl sz24 rfl rfl rfl rfl ?_
     refine x_assign rfl rfl rfl ?_
     refine x_nil (hK _ (go_seq (wc_ret ?_)))
     have hbf : RR.length ≤ bq := by simp at hc7; omega
     have hvs := hU.run
     dsimp only at hvs
     rw [List.take_of_length_le (by rw [List.length_zipIdx]; exact hbf)] at hvs
     have hsl5 : (statesN outs vs5).length = rows.length := by unfold statesN; simp; omega
     have hse := seal_auto (ts := ts5) (os := os4.set io (.cells rows5.flatten)) hwo (List.getElem?_set_self (by omega)) hU.v.out hsl5
     have hN5 : normalS L.l root = statesN outs vs5 := by
      unfold normalS
      rw [hvs, hRn, ← hfin]
      rfl
     have hne5 : statesN outs vs5 ≠ [] := fun e => by rw [e] at hsl5; simp at hsl5; omega
     exact x_end2 (Or.inr rfl) rfl rfl isag24 sz24 rfl rfl hse rfl rfl rfl rfl rfl (by unfold normalV; rw [if_pos hz, hN5]; unfold AutoP.enc; rw [of_ne hne5]; rfl)
   ·obtain ⟨de, hd1, hd2⟩ := esD_mem he155
    have hnx := hI.next hd1 hne155
    have hnl := hnx.le
    have hul : us.length = seen.length := by rw [hI.usq, List.length_map]
    rw [List.length_append, List.length_singleton] at hnl
    refine x_extract rfl rfl rfl rfl ?_
    refine x_nil (hK _ (go_seq (wc_seq ?_)))
    refine xc_cond true rfl (fun _ => ?_) (fun h => by cases h)
    refine wc_skip (go_seq (wc_block (wc_seq (wc_reg fun K hK => ?_))))
    refine x_entry rfl rfl rfl (List.getElem?_set_self hit) ((List.getElem?_set_ne (fun e => by have := hI.io; omega)).trans hI.sta) he155 (fun e he hq => esD_uniq he155 he hq) ?_
    rw [show en155.2.1 = V.sl (de.l.map eRow) de.k from by rw [hd2]]
    refine x_extract rfl rfl rfl rfl ?_
    refine x_assign rfl rfl rfl ?_
    refine x_nil (hK _ (go_seq (wc_reg fun K hK => ?_)))
    refine x_move rfl rfl rfl ?_
    refine x_move rfl rfl rfl ?_
    refine x_bs rfl rfl rfl el83 sz27 zero27 rfl rfl rfl ?_
    refine x_appO (n := us.length) (cs := rcs) (o := ro) rfl rfl rfl hwo rfl rfl el83 und83 zero27 inf27 rfl rfl (by show (us.length + 1) * 24 ≤ _; omega) (arr_keep hI.arr fun i hi => by have := (hI.ro i hi).1; rw [List.getElem?_set_ne (by omega)]) ?_
    refine x_assign rfl rfl rfl ?_
    refine x_nil (hK _ (go_blk ?_))
    exact hR1_4 (seen ++ [en155.2.2], sd.length, _, rcs ++ [V.sl (de.l.map eRow) de.k], us ++ [de.l], some _, _) _ _ _ _ _ hnx (by show sd.length - (seen ++ [en155.2.2]).length < sd.length - seen.length; rw [List.length_append, List.length_singleton]; omega) (by repeat first | exact trivial | refine .intro rfl ?_) (by repeat first | exact trivial | refine .intro rfl ?_) rfl
end Go.Vm
set_option linter.unusedVariables false
namespace Go.Vm
open Go Go.Proofs
theorem kids_len (cls : List Int) : ∀ (ks : List Int) (p : List Int × List Int), (ks.foldl (kidStep cls) p).2.length = p.2.length + ks.length
 | [], p => rfl
 | k :: ks, p => by
  rw [List.foldl_cons, kids_len cls ks (kidStep cls p k)]
  simp [kidStep]; omega
structure Head.sm (h : Head) : Prop where
 names : h.names.l.length ≤ 1024
 kids : h.kids.l.length ≤ 1024
theorem heads_sm (cls : List Int) : ∀ (hs : List Head) (p : List Int × List Head), (∀ h, h ∈ hs → h.sm) → (∀ h, h ∈ p.2 → h.sm) → (hs.foldl (headStep cls) p).2.length = p.2.length + hs.length ∧ ∀ h, h ∈ (hs.foldl (headStep cls) p).2 → h.sm
 | [], p, _, hp => ⟨rfl, hp⟩
 | h :: hs, p, hh, hp => by
  rw [List.foldl_cons]
  have h1 := hh h List.mem_cons_self
  have ih := heads_sm cls hs (headStep cls p h) (fun q hq => hh q (List.mem_cons_of_mem _ hq)) (fun q hq => by
   rcases List.mem_append.1 hq with hq | hq
   ·exact hp q hq
   ·simp only [List.mem_singleton] at hq
    subst hq
    refine ⟨h1.names, ?_⟩
    show (kidsF cls p.1 h.kids.l).2.length ≤ 1024
    have := kids_len cls h.kids.l (p.1, [])
    have := h1.kids
    unfold kidsF
    simp_all)
  refine ⟨?_, ih.2⟩
  rw [ih.1]
  simp [headStep]; omega
theorem standAdd_len : ∀ (st : Stand) (v a : Int) (n : Nat), (∀ e, e ∈ st → e.2.length ≤ n) → (standAdd st v a).length ≤ st.length + 1 ∧ ∀ e, e ∈ standAdd st v a → e.2.length ≤ n + 1
 | [], v, a, n, _ => by simp [standAdd]
 | x :: st, v, a, n, h => by
  have hx := h x List.mem_cons_self
  have ih := standAdd_len st v a n fun e he => h e (List.mem_cons_of_mem _ he)
  unfold standAdd
  split
  ·refine ⟨by simp, fun e he => ?_⟩
   rcases List.mem_cons.1 he with rfl | he
   ·simp; omega
   ·have := h e (List.mem_cons_of_mem _ he); omega
  ·refine ⟨by simp; omega, fun e he => ?_⟩
   rcases List.mem_cons.1 he with rfl | he
   ·omega
   ·exact ih.2 e he
theorem standV_len (D : List Int) (a : Int) : ∀ (vs : List Int) (st : Stand) (n : Nat), st.length ≤ n → (∀ e, e ∈ st → e.2.length ≤ n) → (standV D a st vs).length ≤ n + vs.length ∧ ∀ e, e ∈ standV D a st vs → e.2.length ≤ n + vs.length
 | [], st, n, h1, h2 => ⟨h1, h2⟩
 | v :: vs, st, n, h1, h2 => by
  have e : standV D a st (v :: vs) = standV D a (if v ∈ D then st else standAdd st v a) vs := rfl
  rw [e, List.length_cons]
  by_cases hv : v ∈ D
  ·rw [if_pos hv]
   have := standV_len D a vs st n h1 h2
   exact ⟨by omega, fun e he => by have := this.2 e he; omega⟩
  ·rw [if_neg hv]
   have hs := standAdd_len st v a n h2
   have := standV_len D a vs (standAdd st v a) (n + 1) (by omega) hs.2
   exact ⟨by omega, fun e he => by have := this.2 e he; omega⟩
structure NSm (n : Nat) (x : NState) : Prop where
 outs : ∀ p, p ∈ x.outs → p.2.length ≤ 1024 ∧ ∀ h, h ∈ p.2 → h.sm
 len : x.st.length ≤ n
 each : ∀ e, e ∈ x.st → e.2.length ≤ n
theorem step_sm {L : List StateP} {cls D : List Int} {a n : Nat} {x : NState} (ht : ∀ s, s ∈ L → s.tn) (h : NSm n x) : NSm (n + 1024) (stepN L cls D a x) := by
 unfold stepN
 split
 ·exact ⟨h.outs, by have := h.len; omega, fun e he => by have := h.each e he; omega⟩
 ·rename_i s hs
  have hst := ht s (List.mem_of_getElem? hs)
  have h1 := heads_sm cls s.heads.l (x.ord, []) (fun q hq => ⟨(hst.each q hq).names, (hst.each q hq).kids⟩) (fun q hq => by simp at hq)
  have h2 := standV_len D a s.vars.l x.st n h.len h.each
  have h3 := hst.vars
  have h4 := hst.heads
  refine ⟨fun p hp => ?_, by have := h2.1; show (standV D a x.st s.vars.l).length ≤ n + 1024; omega, fun e he => by have := h2.2 e he; omega⟩
  rcases List.mem_append.1 hp with hp | hp
  ·exact h.outs p hp
  ·simp only [List.mem_singleton] at hp
   subst hp
   refine ⟨?_, h1.2⟩
   show (headsF cls x.ord s.heads.l).2.length ≤ 1024
   have := h1.1
   unfold headsF
   simp at this; omega
theorem normF_sm {L : List StateP} {cls D : List Int} (ht : ∀ s, s ∈ L → s.tn) : ∀ (m a n : Nat) (x : NState), NSm n x → NSm (n + 1024 * m) (normF L cls D m a x)
 | 0, a, n, x, h => h
 | m + 1, a, n, x, h => by
  unfold normF
  split
  ·have := normF_sm (cls := cls) (D := D) ht m (a + 1) (n + 1024) (stepN L cls D a x) (step_sm ht h)
   rw [show n + 1024 * (m + 1) = n + 1024 + 1024 * m by omega]
   exact this
  ·exact ⟨h.outs, by have := h.len; omega, fun e he => by have := h.each e he; omega⟩
theorem varAdd_len (v : Int) : ∀ (l : List Int) (vs : List (List Int)) (i : Nat), ((varAdd vs v l).getD i []).length ≤ (vs.getD i []).length + l.length
 | [], vs, i => Nat.le_refl _
 | k :: l, vs, i => by
  have e : varAdd vs v (k :: l) = varAdd (vs.set k.toNat (vs.getD k.toNat [] ++ [v])) v l := rfl
  have ih := varAdd_len v l (vs.set k.toNat (vs.getD k.toNat [] ++ [v])) i
  rw [e, List.length_cons]
  have h1 : ((vs.set k.toNat (vs.getD k.toNat [] ++ [v])).getD i []).length ≤ (vs.getD i []).length + 1 := by
   simp only [List.getD_eq_getElem?_getD]
   by_cases hi : k.toNat = i
   ·subst hi
    by_cases hl : k.toNat < vs.length
    ·rw [List.getElem?_set_self hl]; simp
    ·rw [List.getElem?_eq_none (by simp; omega)]; simp
   ·rw [List.getElem?_set_ne hi]; omega
  omega
theorem varsF_len {n K : Nat} {R : List (List Int)} (hK : ∀ l, l ∈ R → l.length ≤ K) (i : Nat) : ((varsF R n).getD i []).length ≤ R.length * K := by
 have key : ∀ (Z : List (List Int × Nat)) (vs : List (List Int)), (∀ x, x ∈ Z → x.1.length ≤ K) → ((Z.foldl (fun vs x => varAdd vs x.2 x.1) vs).getD i []).length ≤ (vs.getD i []).length + Z.length * K := by
  intro Z
  induction Z with
  | nil => intro vs _; simp
  | cons z Z ih =>
   intro vs h
   have h1 := ih (varAdd vs z.2 z.1) fun x hx => h x (List.mem_cons_of_mem _ hx)
   have h2 := varAdd_len z.2 z.1 vs i
   have h3 := h z List.mem_cons_self
   rw [List.foldl_cons, List.length_cons, Nat.succ_mul]
   omega
 have := key R.zipIdx (List.replicate n []) fun x hx => by
  have := List.mem_zipIdx_iff_getElem?.1 hx
  exact hK _ (List.mem_of_getElem? this)
 have e : ((List.replicate n ([] : List Int)).getD i []).length = 0 := by rw [List.getD_eq_getElem?_getD, List.getElem?_replicate]; split <;> rfl
 rw [List.length_zipIdx, e] at this
 unfold varsF
 omega
theorem normal_lt {L : List StateP} {root : Int} (hL : L.length ≤ 128) (ht : ∀ s, s ∈ L → s.tn) : ∀ s, s ∈ normalS L root → s.lt := by
 have hsm : NSm (0 + 1024 * (L.length + 3)) (normN L root) := normF_sm ht _ _ 0 _ ⟨fun p hp => by simp at hp, Nat.le_refl _, fun e he => by simp at he⟩
 intro s hs
 unfold normalS statesN at hs
 obtain ⟨x, hx, rfl⟩ := List.mem_map.1 hs
 have hx := List.mem_zipIdx_iff_getElem?.1 hx
 have ho := hsm.outs _ (List.mem_of_getElem? hx)
 have hK : ∀ l, l ∈ rowsN (normN L root) → l.length ≤ 140000 := by
  intro l hl
  have h1 := compU_mem (by rw [srtL_len, List.length_map]; exact Nat.le_refl _) hl
  have h2 := (srtL_perm _).mem_iff.1 h1
  obtain ⟨e, he, rfl⟩ := List.mem_map.1 h2
  have h5 := hsm.each e he
  clear hsm ht hs hx ho h1 h2
  show e.2.length ≤ 140000
  exact Nat.le_trans h5 (Nat.le_trans (Nat.add_le_add_left (Nat.mul_le_mul_left 1024 (Nat.add_le_add_right hL 3)) 0) (by decide))
 have hR : (rowsN (normN L root)).length ≤ 140000 := by
  have := compU_le (srtL ((normN L root).st.map (·.2))) (normN L root).st.length
  have := hsm.len
  unfold rowsN; omega
 have hv := varsF_len (n := (normN L root).outs.length) hK x.2
 refine ⟨?_, ?_, fun h hh => ?_⟩
 ·show ((varsF (rowsN (normN L root)) (normN L root).outs.length).getD x.2 []).length < 2 ^ 60
  generalize (rowsN (normN L root)).length = r at hR hv
  generalize ((varsF (rowsN (normN L root)) (normN L root).outs.length).getD x.2 []).length = q at hv
  omega
 ·show x.1.2.length < 2 ^ 60
  omega
 ·have := ho.2 h hh
  exact ⟨by have := this.names; omega, by have := this.kids; omega⟩
theorem outs_len {L : List StateP} {cls D : List Int} : ∀ (m a : Nat) (x : NState), (normF L cls D m a x).outs.length ≤ x.outs.length + m
 | 0, a, x => Nat.le_refl _
 | m + 1, a, x => by
  unfold normF
  split
  ·have := outs_len (L := L) (cls := cls) (D := D) m (a + 1) (stepN L cls D a x)
   have h2 : (stepN L cls D a x).outs.length ≤ x.outs.length + 1 := by unfold stepN; split <;> simp
   omega
  ·omega
theorem normal_len {L : List StateP} {root : Int} (hL : L.length ≤ 128) : (normalS L root).length < 2 ^ 60 := by
 have := outs_len (L := L) (cls := classL L root) (D := idleD (idleB L root) L) (L.length + 3) 0 ⟨[root], [], []⟩
 unfold normalS statesN normN
 simp at this ⊢
 omega
noncomputable def nlP (L : List StateP) (root : Int) : PV := if autoB L root = 0 then (Sl.of (normalS L root)).enc StateP.enc else .nilsl
theorem normalV_eq (L : List StateP) (root : Int) : normalV L root = .tup [.agg [.p (nlP L root), .p (.int .i64 0)], .p (.int .i64 (autoB L root))] := by
 unfold normalV nlP
 by_cases h : autoB L root = 0
 ·rw [if_pos h, if_pos h, h]; rfl
 ·rw [if_neg h, if_neg h]
noncomputable def sameB (L : List StateP) (p : Int) (M : List StateP) (q : Int) : Bool := decide (autoB L p = 0) && decide (autoB M q = 0) && autoE (Sl.of (normalS L p), 0) (Sl.of (normalS M q), 0)
theorem same_at {L M : List StateP} {p q : Int} (hL : L.length ≤ 128) (ht : ∀ s, s ∈ L → s.tn) (h1 : autoB L p = 0) (h2 : autoB M q = 0) :
  Pure En 55 [.agg [.p (nlP L p), .p (.int .i64 0)], .agg [.p (nlP M q), .p (.int .i64 0)]] (.p (.bool (autoE (Sl.of (normalS L p), 0) (Sl.of (normalS M q), 0)))) := by
 unfold nlP
 rw [if_pos h1, if_pos h2]
 exact same_ok (Sl.of (normalS L p)) (Sl.of (normalS M q)) 0 0 (normal_len hL) (normal_lt hL ht)
theorem sameB_symm (L : List StateP) (p : Int) (M : List StateP) (q : Int) : sameB L p M q = sameB M q L p := by
 unfold sameB
 rw [autoE_symm, Bool.and_comm (decide (autoB L p = 0))]
theorem sameB_refl (L : List StateP) (p : Int) : sameB L p L p = decide (autoB L p = 0) := by
 unfold sameB
 rw [autoE_refl]
 simp
theorem sameB_trans {L M N : List StateP} {p q r : Int} (h1 : sameB L p M q = true) (h2 : sameB M q N r = true) : sameB L p N r = true := by
 unfold sameB at *
 simp only [Bool.and_eq_true, decide_eq_true_eq] at *
 exact ⟨⟨h1.1.1, h2.1.2⟩, autoE_trans _ _ _ h1.2 h2.2⟩
end Go.Vm
set_option linter.unusedVariables false
namespace Go.Vm
open Go Go.Proofs
attribute [local irreducible] wpL
set_option maxRecDepth 20000 in
theorem sameN_ok (L M : Sl StateP) (p q : Int) (hL : L.l.length ≤ 128) (hM : M.l.length ≤ 128) (tL : ∀ s, s ∈ L.l → s.tn) (tM : ∀ s, s ∈ M.l → s.tn) : Pure En 30 [.agg ((AutoP.enc L p).map .p), .agg ((AutoP.enc M q).map .p)] (.p (.bool (sameB L.l p M.l q))) := by
 refine pure_walk [(0, .agg ((AutoP.enc L p).map .p)), (1, .agg ((AutoP.enc M q).map .p))] Tryz.func30 rfl rfl rfl fun g hwo hwt => ?_
 show Wc En _ (Tryz.f30.body.getD .skip) [] (Sx 30 _ _ _ _ _ _)
 unfold Tryz.f30
 simp only [Option.getD_some]
 refine wc_seq (wc_reg fun K hK => ?_)
 refine x_box rfl rfl rfl rfl rfl ?_
 refine x_box rfl rfl rfl rfl rfl ?_
 refine x_assign rfl rfl rfl ?_
 refine x_nil (hK _ (go_seq (wc_seq (wc_reg fun K hK => ?_))))
 refine x_ldLA rfl rfl rfl isag24 sz24 rfl rfl ?_
 refine x_call rfl rfl rfl (by repeat (first | exact ho_nil | refine ho_cons (by first | rfl | assumption | exact rd_ho (by assumption)) ?_)) okf20 (normal_ok L p hL tL _) ?_
 rw [normalV_eq]
 refine x_move rfl rfl rfl ?_
 refine x_extract rfl rfl rfl rfl ?_
 refine x_extract rfl rfl rfl rfl ?_
 refine x_alloc rfl rfl rfl zero24 rfl ?_
 refine x_stL rfl rfl rfl sz24 rfl rfl rfl rfl ?_
 refine x_assign rfl rfl rfl ?_
 refine x_nil (hK _ (go_seq (wc_seq (wc_reg fun K hK => ?_))))
 refine x_ldLA rfl rfl rfl isag24 sz24 rfl rfl ?_
 refine x_call rfl rfl rfl (by repeat (first | exact ho_nil | refine ho_cons (by first | rfl | assumption | exact rd_ho (by assumption)) ?_)) okf20 (normal_ok M q hM tM _) ?_
 rw [normalV_eq]
 refine x_move rfl rfl rfl ?_
 refine x_extract rfl rfl rfl rfl ?_
 refine x_extract rfl rfl rfl rfl ?_
 refine x_alloc rfl rfl rfl zero24 rfl ?_
 refine x_stL rfl rfl rfl sz24 rfl rfl rfl rfl ?_
 refine x_assign rfl rfl rfl ?_
 refine x_nil (hK _ (go_seq (wc_seq (wc_reg fun K hK => ?_))))
 refine x_move rfl rfl rfl ?_
 refine x_bin rfl rfl rfl rfl rfl ?_
 refine x_moveS rfl rfl rfl (fun hg21 => ?_) (fun hg21 => ?_)
 ·have h1 : autoB L.l p = 0 := by simpa using hg21
  refine x_move rfl rfl rfl ?_
  refine x_bin rfl rfl rfl rfl rfl ?_
  refine x_pickT rfl rfl rfl rfl ?_
  refine x_moveS rfl rfl rfl (fun hg25 => ?_) (fun hg25 => ?_)
  ·have h2 : autoB M.l q = 0 := by simpa using hg25
   refine x_ldLA rfl rfl rfl isag24 sz24 rfl rfl ?_
   refine x_ldLA rfl rfl rfl isag24 sz24 rfl rfl ?_
   refine x_call rfl rfl rfl (by repeat (first | exact ho_nil | refine ho_cons (by first | rfl | assumption | exact rd_ho (by assumption)) ?_)) okf55 (same_at hL tL h1 h2 _) ?_
   refine x_pickT rfl rfl rfl rfl ?_
   refine x_assign rfl rfl rfl ?_
   refine x_nil (hK _ (go_seq (wc_ret ?_)))
   exact x_end1 (Or.inr rfl) rfl rfl rfl rfl rfl rfl (by unfold sameB; rw [decide_eq_true h1, decide_eq_true h2]; rfl)
  ·have h2 : ¬ autoB M.l q = 0 := by simpa using hg25
   refine x_skip rfl rfl ?_
   refine x_skip rfl rfl ?_
   refine x_skip rfl rfl ?_
   refine x_pickF rfl rfl rfl rfl ?_
   refine x_assign rfl rfl rfl ?_
   refine x_nil (hK _ (go_seq (wc_ret ?_)))
   exact x_end1 (Or.inr rfl) rfl rfl rfl rfl rfl rfl (by unfold sameB; rw [decide_eq_false h2, Bool.and_false]; rfl)
 ·have h1 : ¬ autoB L.l p = 0 := by simpa using hg21
  refine x_skip rfl rfl ?_
  refine x_skip rfl rfl ?_
  refine x_pickF rfl rfl rfl rfl ?_
  refine x_move rfl rfl rfl ?_
  refine x_skip rfl rfl ?_
  refine x_skip rfl rfl ?_
  refine x_skip rfl rfl ?_
  refine x_pickF rfl rfl rfl rfl ?_
  refine x_assign rfl rfl rfl ?_
  refine x_nil (hK _ (go_seq (wc_ret ?_)))
  exact x_end1 (Or.inr rfl) rfl rfl rfl rfl rfl rfl (by unfold sameB; rw [decide_eq_false h1]; rfl)
end Go.Vm
namespace Go.Vm
open Go
noncomputable def Cn2 : Cfg := { E := En, cleans := fun f => !memN [32, 33, 34, 35, 60, 61, 79, 84, 97, 123, 43, 36, 62, 85, 46, 71, 102, 48] f, keeps := fun f => memN [79] f }
set_option maxRecDepth 100000
theorem lives16 : runF Cn2 100000 19 [] ⟨[], [], 0, 0⟩ = some (.clean [[.p (.bool true)]]) := by kernel_rfl
end Go.Vm
set_option linter.unusedVariables false
namespace Go.Vm
open Go Go.Proofs
structure Head.rg (h : Head) : Prop where
 lo : -9223372036854775808 ≤ h.kind
 hi : h.kind ≤ 9223372036854775807
structure StateP.rg (s : StateP) : Prop where
 vars : ∀ v, v ∈ s.vars.l → -9223372036854775808 ≤ v ∧ v ≤ 9223372036854775807
 each : ∀ h, h ∈ s.heads.l → h.rg
theorem few_tn {L : List StateP} (h0 : ∀ s, s ∈ L → s.ok0 ∧ s.rg) (hf : fewA L = true) : L.length ≤ 128 ∧ ∀ s, s ∈ L → s.tn := by
 unfold fewA at hf
 simp only [Bool.and_eq_true, decide_eq_true_eq, List.all_eq_true] at hf
 refine ⟨by omega, fun s hs => ?_⟩
 have := hf.1 s hs
 unfold fewS fewG at this
 simp only [Bool.and_eq_true, decide_eq_true_eq, List.all_eq_true] at this
 refine ⟨by omega, by omega, (h0 s hs).2.vars, fun h hh => ?_⟩
 have h2 := this.2.2.1 h hh
 unfold fewH at h2
 simp only [Bool.and_eq_true, decide_eq_true_eq, List.all_eq_true] at h2
 have h3 := (h0 s hs).2.each h hh
 exact ⟨h3.lo, h3.hi, by omega, by omega, fun n hn => by have := h2.2.2 n hn; omega⟩
theorem lives16_at {g : G} (h1 : g.objs = []) (h2 : g.toks = []) (h3 : g.wo = g.objs.length) (h4 : g.wt = g.toks.length) (hl : runF Cn2 100000 19 [] ⟨[], [], 0, 0⟩ = some (.clean [[.p (.bool true)]])) : CallsAt En g 19 [] (.p (.bool true)) g := by
 have e : g = ⟨[], [], 0, 0⟩ := by
  obtain ⟨a, b, c, d⟩ := g
  simp only at h1 h2 h3 h4
  subst h1 h2 h3 h4
  rfl
 subst e
 refine (runF_ok (C := Cn2) En_mono mixed hl).monoF En_mono fun v g' h => ?_
 obtain ⟨rfl, ws, h1, rfl⟩ := h
 simp at h1; subst h1; exact ⟨rfl, rfl⟩
end Go.Vm
set_option linter.unusedVariables false
namespace Go.Vm
open Go Go.Proofs
attribute [local irreducible] wpL
set_option maxRecDepth 20000 in
theorem refineSame_ok {g0 : G} (h01 : g0.objs = []) (h02 : g0.toks = []) (hlv : runF Cn2 100000 19 [] ⟨[], [], 0, 0⟩ = some (.clean [[.p (.bool true)]])) (X Y Z : Sl StateP) (p q r : Int) (hX : X.l.length < 2 ^ 60) (hY : Y.l.length < 2 ^ 60) (hZ : Z.l.length < 2 ^ 60) (sX : ∀ s, s ∈ X.l → s.ok0 ∧ s.rg) (sY : ∀ s, s ∈ Y.l → s.ok0 ∧ s.rg) (sZ : ∀ s, s ∈ Z.l → s.ok0 ∧ s.rg) : CallsAt En g0 6 [.agg ((AutoP.enc X p).map .p), .agg ((AutoP.enc Y q).map .p), .agg ((AutoP.enc Z r).map .p)] (.p (.bool true)) g0 := by
 refine at_walk [(0, .agg ((AutoP.enc X p).map .p)), (1, .agg ((AutoP.enc Y q).map .p)), (2, .agg ((AutoP.enc Z r).map .p))] Tryz.func6 rfl rfl rfl fun g hgo hgt hwo hwt => ?_
 show Wc En _ (Tryz.f6.body.getD .skip) [] (Sx 56 _ _ _ _ _ _)
 unfold Tryz.f6
 simp only [Option.getD_some]
 rw [← G.ext_nil g]
 refine wc_seq (wc_reg fun K hK => ?_)
 refine x_box rfl rfl rfl rfl rfl ?_
 refine x_box rfl rfl rfl rfl rfl ?_
 refine x_box rfl rfl rfl rfl rfl ?_
 refine x_assign rfl rfl rfl ?_
 refine x_nil (hK _ (go_seq (wc_seq (wc_seq (wc_reg fun K hK => ?_)))))
 refine x_call rfl rfl rfl (by repeat (first | exact ho_nil | refine ho_cons (by first | rfl | assumption | exact rd_ho (by assumption)) ?_)) okf19 (lives16_at (by show g.objs ++ [] = []; rw [hgo, h01]; rfl) (by show g.toks ++ [] = []; rw [hgt, h02]; rfl) (by show g.wo = (g.objs ++ []).length; rw [List.append_nil]; exact hwo) (by show g.wt = (g.toks ++ []).length; rw [List.append_nil]; exact hwt) hlv) ?_
 refine x_not rfl rfl rfl ?_
 refine x_moveS rfl rfl rfl (fun hg11 => ?_) (fun hg11 => ?_)
 ·exact absurd hg11 (by decide)
 ·refine x_ldLA rfl rfl rfl isag24 sz24 rfl rfl ?_
  refine x_call rfl rfl rfl (by repeat (first | exact ho_nil | refine ho_cons (by first | rfl | assumption | exact rd_ho (by assumption)) ?_)) okf10 (fewA_ok X p hX (fun s hs => (sX s hs).1) _) ?_
  refine x_not rfl rfl rfl ?_
  refine x_pickF rfl rfl rfl rfl ?_
  refine x_moveS rfl rfl rfl (fun hg16 => ?_) (fun hg16 => ?_)
  ·refine x_skip rfl rfl ?_
   refine x_skip rfl rfl ?_
   refine x_skip rfl rfl ?_
   refine x_pickT rfl rfl rfl rfl ?_
   refine x_move rfl rfl rfl ?_
   refine x_skip rfl rfl ?_
   refine x_skip rfl rfl ?_
   refine x_skip rfl rfl ?_
   refine x_pickT rfl rfl rfl rfl ?_
   refine x_nil (hK _ (go_seq ?_))
   refine xc_cond true rfl (fun _ => ?_) (fun h => by cases h)
   refine wc_seq (wc_reg fun K hK => ?_)
   refine x_call rfl rfl rfl (by repeat (first | exact ho_nil | refine ho_cons (by first | rfl | assumption | exact rd_ho (by assumption)) ?_)) okf19 (lives16_at (by show g.objs ++ [] = []; rw [hgo, h01]; rfl) (by show g.toks ++ [] = []; rw [hgt, h02]; rfl) (by show g.wo = (g.objs ++ []).length; rw [List.append_nil]; exact hwo) (by show g.wt = (g.toks ++ []).length; rw [List.append_nil]; exact hwt) hlv) ?_
   refine x_assign rfl rfl rfl ?_
   refine x_nil (hK _ (go_seq (wc_ret (go_seq_ret ?_))))
   exact x_end1 (Or.inr rfl) rfl rfl rfl rfl rfl rfl rfl
  ·have hxf : fewA X.l = true := by simpa using hg16
   refine x_ldLA rfl rfl rfl isag24 sz24 rfl rfl ?_
   refine x_call rfl rfl rfl (by repeat (first | exact ho_nil | refine ho_cons (by first | rfl | assumption | exact rd_ho (by assumption)) ?_)) okf10 (fewA_ok Y q hY (fun s hs => (sY s hs).1) _) ?_
   refine x_not rfl rfl rfl ?_
   refine x_pickF rfl rfl rfl rfl ?_
   refine x_moveS rfl rfl rfl (fun hg21 => ?_) (fun hg21 => ?_)
   ·refine x_skip rfl rfl ?_
    refine x_skip rfl rfl ?_
    refine x_skip rfl rfl ?_
    refine x_pickT rfl rfl rfl rfl ?_
    refine x_nil (hK _ (go_seq ?_))
    refine xc_cond true rfl (fun _ => ?_) (fun h => by cases h)
    refine wc_seq (wc_reg fun K hK => ?_)
    refine x_call rfl rfl rfl (by repeat (first | exact ho_nil | refine ho_cons (by first | rfl | assumption | exact rd_ho (by assumption)) ?_)) okf19 (lives16_at (by show g.objs ++ [] = []; rw [hgo, h01]; rfl) (by show g.toks ++ [] = []; rw [hgt, h02]; rfl) (by show g.wo = (g.objs ++ []).length; rw [List.append_nil]; exact hwo) (by show g.wt = (g.toks ++ []).length; rw [List.append_nil]; exact hwt) hlv) ?_
    refine x_assign rfl rfl rfl ?_
    refine x_nil (hK _ (go_seq (wc_ret (go_seq_ret ?_))))
    exact x_end1 (Or.inr rfl) rfl rfl rfl rfl rfl rfl rfl
   ·have hyf : fewA Y.l = true := by simpa using hg21
    refine x_ldLA rfl rfl rfl isag24 sz24 rfl rfl ?_
    refine x_call rfl rfl rfl (by repeat (first | exact ho_nil | refine ho_cons (by first | rfl | assumption | exact rd_ho (by assumption)) ?_)) okf10 (fewA_ok Z r hZ (fun s hs => (sZ s hs).1) _) ?_
    refine x_not rfl rfl rfl ?_
    refine x_pickF rfl rfl rfl rfl ?_
    refine x_nil (hK _ (go_seq ?_))
    refine xc_cond _ rfl (fun hc0 => ?_) (fun hc0 => ?_)
    ·refine wc_seq (wc_reg fun K hK => ?_)
     refine x_call rfl rfl rfl (by repeat (first | exact ho_nil | refine ho_cons (by first | rfl | assumption | exact rd_ho (by assumption)) ?_)) okf19 (lives16_at (by show g.objs ++ [] = []; rw [hgo, h01]; rfl) (by show g.toks ++ [] = []; rw [hgt, h02]; rfl) (by show g.wo = (g.objs ++ []).length; rw [List.append_nil]; exact hwo) (by show g.wt = (g.toks ++ []).length; rw [List.append_nil]; exact hwt) hlv) ?_
     refine x_assign rfl rfl rfl ?_
     refine x_nil (hK _ (go_seq (wc_ret (go_seq_ret ?_))))
     exact x_end1 (Or.inr rfl) rfl rfl rfl rfl rfl rfl rfl
    ·have hzf : fewA Z.l = true := by simpa using hc0
     obtain ⟨hxl, hxt⟩ := few_tn sX hxf
     obtain ⟨hyl, hyt⟩ := few_tn sY hyf
     obtain ⟨hzl, hzt⟩ := few_tn sZ hzf
     refine wc_skip (go_seq (wc_seq ?_))
     refine xc_drw [0, 1, 2, 3, 4, 5, 6, 7] mixed (by kernel_rfl) fun K hK => ?_
     refine x_ldLA rfl rfl rfl isag24 sz24 rfl rfl ?_
     refine x_ldLA rfl rfl rfl isag24 sz24 rfl rfl ?_
     refine x_call rfl rfl rfl (by repeat (first | exact ho_nil | refine ho_cons (by first | rfl | assumption | exact rd_ho (by assumption)) ?_)) okf30 (sameN_ok X Y p q hxl hyl hxt hyt _) ?_
     refine x_ldLA rfl rfl rfl isag24 sz24 rfl rfl ?_
     refine x_ldLA rfl rfl rfl isag24 sz24 rfl rfl ?_
     refine x_call rfl rfl rfl (by repeat (first | exact ho_nil | refine ho_cons (by first | rfl | assumption | exact rd_ho (by assumption)) ?_)) okf30 (sameN_ok Y Z q r hyl hzl hyt hzt _) ?_
     refine x_assign rfl rfl rfl ?_
     refine x_assign rfl rfl rfl ?_
     refine x_nil (hK _ (go_seq (wc_seq (wc_seq ?_))))
     refine xc_drw [0, 1, 2, 3, 4, 5, 6, 7, 8, 9, 10, 11, 12] mixed (by kernel_rfl) fun K hK => ?_
     refine x_ldLA rfl rfl rfl isag24 sz24 rfl rfl ?_
     refine x_ldLA rfl rfl rfl isag24 sz24 rfl rfl ?_
     refine x_call rfl rfl rfl (by repeat (first | exact ho_nil | refine ho_cons (by first | rfl | assumption | exact rd_ho (by assumption)) ?_)) okf30 (sameN_ok X X p p hxl hxl hxt hxt _) ?_
     refine x_ldLA rfl rfl rfl isag24 sz24 rfl rfl ?_
     refine x_call rfl rfl rfl (by repeat (first | exact ho_nil | refine ho_cons (by first | rfl | assumption | exact rd_ho (by assumption)) ?_)) okf11 (rightA_ok X p hX (fun s hs => (hxt s hs).ok) _) ?_
     refine x_bin rfl rfl rfl rfl rfl ?_
     refine x_moveS rfl rfl rfl (fun hg39 => ?_) (fun hg39 => ?_)
     ·exact absurd hg39 (by rw [sameB_refl, ← right_eq X.l p (fun s hs h hh => by have := ((hxt s hs).each h hh).kids; omega)]; by_cases hq : autoB X.l p = 0 <;> simp [hq])
     ·refine x_move rfl rfl rfl ?_
      refine x_ldLA rfl rfl rfl isag24 sz24 rfl rfl ?_
      refine x_ldLA rfl rfl rfl isag24 sz24 rfl rfl ?_
      refine x_call rfl rfl rfl (by repeat (first | exact ho_nil | refine ho_cons (by first | rfl | assumption | exact rd_ho (by assumption)) ?_)) okf30 (sameN_ok Y X q p hyl hxl hyt hxt _) ?_
      refine x_bin rfl rfl rfl rfl rfl ?_
      refine x_pickF rfl rfl rfl rfl ?_
      refine x_nil (hK _ (go_seq ?_))
      refine xc_cond _ rfl (fun hc1 => ?_) (fun hc1 => ?_)
      ·exact absurd hc1 (by rw [sameB_symm]; simp)
      ·refine wc_skip (go_seq (wc_seq (wc_reg fun K hK => ?_)))
       refine x_move rfl rfl rfl ?_
       refine x_moveS rfl rfl rfl (fun hg47 => ?_) (fun hg47 => ?_)
       ·refine x_move rfl rfl rfl ?_
        refine x_pickT rfl rfl rfl rfl ?_
        refine x_not rfl rfl rfl ?_
        refine x_moveS rfl rfl rfl (fun hg51 => ?_) (fun hg51 => ?_)
        ·refine x_skip rfl rfl ?_
         refine x_skip rfl rfl ?_
         refine x_skip rfl rfl ?_
         refine x_pickT rfl rfl rfl rfl ?_
         refine x_assign rfl rfl rfl ?_
         refine x_nil (hK _ (go_seq (wc_ret ?_)))
         exact x_end1 (Or.inr rfl) rfl rfl rfl rfl rfl rfl rfl
        ·refine x_ldLA rfl rfl rfl isag24 sz24 rfl rfl ?_
         refine x_ldLA rfl rfl rfl isag24 sz24 rfl rfl ?_
         refine x_call rfl rfl rfl (by repeat (first | exact ho_nil | refine ho_cons (by first | rfl | assumption | exact rd_ho (by assumption)) ?_)) okf30 (sameN_ok X Z p r hxl hzl hxt hzt _) ?_
         refine x_pickF rfl rfl rfl rfl ?_
         refine x_assign rfl rfl rfl ?_
         refine x_nil (hK _ (go_seq (wc_ret ?_)))
         exact x_end1 (Or.inr rfl) rfl rfl rfl rfl rfl rfl (by rw [sameB_trans (M := Y.l) (q := q) hg47 (by simpa using hg51)])
       ·refine x_skip rfl rfl ?_
        refine x_pickF rfl rfl rfl rfl ?_
        refine x_not rfl rfl rfl ?_
        refine x_move rfl rfl rfl ?_
        refine x_skip rfl rfl ?_
        refine x_skip rfl rfl ?_
        refine x_skip rfl rfl ?_
        refine x_pickT rfl rfl rfl rfl ?_
        refine x_assign rfl rfl rfl ?_
        refine x_nil (hK _ (go_seq (wc_ret ?_)))
        exact x_end1 (Or.inr rfl) rfl rfl rfl rfl rfl rfl rfl
end Go.Vm
set_option linter.unusedVariables false
set_option maxRecDepth 100000
namespace Go.Vm
open Go Go.Proofs Go.ChangeShapes
def tab32 : List Int := [0, 1, 28, 2, 29, 14, 24, 3, 30, 22, 20, 15, 25, 17, 4, 8, 31, 27, 13, 23, 21, 19, 16, 7, 26, 12, 18, 6, 11, 5, 10, 9]
def tab64 : List Int := [0, 1, 56, 2, 57, 49, 28, 3, 61, 58, 42, 50, 38, 29, 17, 4, 62, 47, 59, 36, 45, 43, 51, 22, 53, 39, 33, 30, 24, 18, 12, 5, 63, 55, 48, 27, 60, 41, 37, 16, 46, 35, 44, 21, 52, 32, 23, 11, 54, 26, 40, 15, 34, 20, 31, 10, 25, 14, 19, 9, 13, 8, 7, 6]
def pow10 : List Int := [1, 10, 100, 1000, 10000, 100000, 1000000, 10000000, 100000000, 1000000000, 10000000000, 100000000000, 1000000000000, 10000000000000, 100000000000000, 1000000000000000, 10000000000000000, 100000000000000000, 1000000000000000000, 10000000000000000000]
abbrev laid3 : List (String × DataW Unit) := [("math/bits.deBruijn32tab", YtmknnanbmkmnjaaGreatDoor.Rows.laid_math_bits_deBruijn32tab), ("math/bits.deBruijn64tab", YtmknnanbmkmnjaaGreatDoor.Rows.laid_math_bits_deBruijn64tab), ("internal/strconv.uint64pow10", YtmknnanbmkmnjaaGreatDoor.Rows.laid_internal_strconv_uint64pow10)]
theorem glob_laid {W : World} (h : laidMetH Tryz.prog laid3 W) : ∀ gid row, En.glob gid = some row → GlobR (Vw.all W) gid row W := by
 rw [MakeChecks.laidMetH_plain _ _ _ (by kernel_rfl)] at h
 obtain ⟨ps, ⟨g0, t0, cs0, f0, p0, q0, hg0, ht0, hv0, hd0, ⟨g1, t1, cs1, f1, p1, q1, hg1, ht1, hv1, hd1, ⟨g2, t2, cs2, f2, p2, q2, hg2, ht2, hv2, hd2, _, _⟩, _⟩, _⟩, _, _⟩ := h
 have e0 : Tryz.prog.globalNamed "math/bits.deBruijn32tab" = some 2 := by kernel_rfl
 have e1 : Tryz.prog.globalNamed "math/bits.deBruijn64tab" = some 3 := by kernel_rfl
 have e2 : Tryz.prog.globalNamed "internal/strconv.uint64pow10" = some 0 := by kernel_rfl
 obtain rfl := Option.some.inj (e0.symm.trans hg0)
 obtain rfl := Option.some.inj (e1.symm.trans hg1)
 obtain rfl := Option.some.inj (e2.symm.trans hg2)
 obtain rfl := Option.some.inj ((show (Tryz.prog.globals[2]?).map (·.type) = some 261 by kernel_rfl).symm.trans ht0)
 obtain rfl := Option.some.inj ((show (Tryz.prog.globals[3]?).map (·.type) = some 262 by kernel_rfl).symm.trans ht1)
 obtain rfl := Option.some.inj ((show (Tryz.prog.globals[0]?).map (·.type) = some 236 by kernel_rfl).symm.trans ht2)
 have r0 : GlobR (Vw.all W) 2 (tab32.map fun m => .p (.int .u8 m)) W := laid_ref (l := tab32) e0 hv0 Tryz.underlying261 Tryz.underlying5 (by kernel_rfl) (by kernel_rfl) hd0
 have r1 : GlobR (Vw.all W) 3 (tab64.map fun m => .p (.int .u8 m)) W := laid_ref (l := tab64) e1 hv1 Tryz.underlying262 Tryz.underlying5 (by kernel_rfl) (by kernel_rfl) hd1
 have r2 : GlobR (Vw.all W) 0 (pow10.map fun m => .p (.int .u64 m)) W := laid_ref (l := pow10) e2 hv2 Tryz.underlying236 Tryz.underlying147 (by kernel_rfl) (by kernel_rfl) hd2
 intro gid row hrow
 have hrow : lookN globTab gid = some row := hrow
 unfold globTab at hrow
 simp only [lookN] at hrow
 cases h2 : Nat.beq 2 gid with
 | true =>
  obtain rfl := Nat.eq_of_beq_eq_true h2
  rw [h2] at hrow
  cases hrow
  exact r0
 | false =>
  rw [h2] at hrow
  cases h3 : Nat.beq 3 gid with
  | true =>
   obtain rfl := Nat.eq_of_beq_eq_true h3
   rw [h3] at hrow
   cases hrow
   exact r1
  | false =>
   rw [h3] at hrow
   cases h4 : Nat.beq 0 gid with
   | true =>
    obtain rfl := Nat.eq_of_beq_eq_true h4
    rw [h4] at hrow
    cases hrow
    exact r2
   | false => rw [h4] at hrow; cases hrow
end Go.Vm
set_option linter.unusedVariables false
set_option maxRecDepth 100000
namespace Go.Vm
open Go Go.Proofs Go.ChangeShapes
section
variable {W : World}
theorem reach60 {n : Nat} (h : n ≤ reachBytes) : n < 2 ^ 60 := by unfold reachBytes at h; omega
theorem opensB : Opens Tryz.prog W 4 eBool (fun _ => True) := opens_bool Tryz.underlying4
theorem opensSs : Opens Tryz.prog W 35 (fun s : Sl ByteArray => [s.enc eStr]) (fun s => s.l.length < 2 ^ 60 ∧ ∀ x, x ∈ s.l → x.size < 2 ^ 60) :=
 opens_mono (opens_slice Tryz.underlying35 (opens_string Tryz.underlying9) (by kernel_rfl) (by decide) (fun _ => rfl) (of_decide_eq_true (by kernel_rfl))) fun s h => ⟨reach60 h.1, fun x hx => reach60 (h.2 x hx)⟩
theorem cel3 : Tryz.prog.cellsOf 3 = 1 := by kernel_rfl
theorem cel4 : Tryz.prog.cellsOf 4 = 1 := by kernel_rfl
theorem cel27 : Tryz.prog.cellsOf 27 = 1 := by kernel_rfl
theorem cel35 : Tryz.prog.cellsOf 35 = 1 := by kernel_rfl
theorem cel32 : Tryz.prog.cellsOf 32 = 1 := by kernel_rfl
theorem cel22 : Tryz.prog.cellsOf 22 = 1 := by kernel_rfl
theorem cel37 : Tryz.prog.cellsOf 37 = 4 := by kernel_rfl
theorem cel34 : Tryz.prog.cellsOf 34 = 3 := by kernel_rfl
theorem cel24 : Tryz.prog.cellsOf 24 = 2 := by kernel_rfl
structure AutoA where
 L : Sl StateP
 root : Int
def AutoA.enc (x : AutoA) : List PV := AutoP.enc x.L x.root
structure AutoA.ok (x : AutoA) : Prop where
 len : x.L.l.length < 2 ^ 60
 each : ∀ s, s ∈ x.L.l → s.ok0
end
def typesT : List Nat := [3, 4, 5, 9, 22, 24, 27, 32, 34, 35, 37]
theorem memN_mem : ∀ {l : List Nat} {n : Nat}, memN l n = true → n ∈ l := by
 intro l
 induction l with
 | nil => intro n h; cases h
 | cons a l ih =>
  intro n h
  simp only [memN, Bool.or_eq_true] at h
  rcases h with h | h
  ·rw [Nat.eq_of_beq_eq_true h]; exact List.mem_cons_self
  ·exact List.mem_cons_of_mem _ (ih h)
theorem typesT_ok : ∀ t, memN typesT t = true → kidsT Tryz.prog (memN typesT) t = true := by
 have key : (typesT.all (kidsT Tryz.prog (memN typesT))) = true := by kernel_rfl
 intro t h
 exact List.all_eq_true.1 key t (memN_mem h)
end Go.Vm
set_option linter.unusedVariables false
set_option maxRecDepth 100000
namespace Go.Vm
open Go Go.Proofs Go.ChangeShapes
def inI (n : Int) : Prop := -9223372036854775808 ≤ n ∧ n ≤ 9223372036854775807
section
variable {W : World}
theorem opensI2 : Opens Tryz.prog W 3 eInt inI := opens_mono (opens_int Tryz.underlying3) fun n h => by
 have h1 : IntKind.i64.min = -9223372036854775808 := rfl
 have h2 : IntKind.i64.max = 9223372036854775807 := rfl
 have h : (decide (IntKind.i64.min ≤ n) && decide (n ≤ IntKind.i64.max)) = true := h
 rw [h1, h2] at h
 simpa [inI] using h
theorem opensIs2 : Opens Tryz.prog W 27 (fun s : Sl Int => [s.enc eInt]) (fun s => s.l.length < 2 ^ 60 ∧ ∀ x, x ∈ s.l → inI x) :=
 opens_mono (opens_slice Tryz.underlying27 opensI2 (by kernel_rfl) (by decide) (fun _ => rfl) (of_decide_eq_true (by kernel_rfl))) fun s h => ⟨reach60 h.1, h.2⟩
theorem opensHead2 : Opens Tryz.prog W 37 Head.enc (fun h => h.ok0 ∧ h.rg) := by
 intro H enc fuel cs x hx hw
 have hl := struct_len Tryz.underlying37 hx
 obtain ⟨a, ha0, _, ha⟩ := struct_field Tryz.underlying37 hx hw (i := 0) rfl opensI2
 obtain ⟨b, hb0, _, hb⟩ := struct_field Tryz.underlying37 hx hw (i := 1) rfl opensSs
 obtain ⟨c, hc0, _, hc⟩ := struct_field Tryz.underlying37 hx hw (i := 2) rfl opensIs2
 obtain ⟨d, _, _, hd⟩ := struct_field Tryz.underlying37 hx hw (i := 3) rfl opensB
 refine ⟨⟨a, b, c, d⟩, ⟨⟨hb0.1, hb0.2, hc0.1⟩, ⟨ha0.1, ha0.2⟩⟩, by rw [hl, cel37]; rfl, fun i p y hp hy => ?_⟩
 match i with
 | 0 => cases hp; exact at1 ha rfl cel3 y hy
 | 1 => cases hp; exact at1 hb rfl cel35 y hy
 | 2 => cases hp; exact at1 hc rfl cel27 y hy
 | 3 => cases hp; exact at1 hd rfl cel4 y hy
 | i + 4 => cases hp
theorem opensHeads2 : Opens Tryz.prog W 32 (fun s : Sl Head => [s.enc Head.enc]) (fun s => s.l.length < 2 ^ 60 ∧ ∀ x, x ∈ s.l → x.ok0 ∧ x.rg) :=
 opens_mono (opens_slice Tryz.underlying32 opensHead2 cel37 (by decide) (fun _ => rfl) (of_decide_eq_true (by kernel_rfl))) fun s h => ⟨reach60 h.1, h.2⟩
theorem opensState2 : Opens Tryz.prog W 34 StateP.enc (fun s => s.ok0 ∧ s.rg) := by
 intro H enc fuel cs x hx hw
 have hl := struct_len Tryz.underlying34 hx
 obtain ⟨a, _, _, ha⟩ := struct_field Tryz.underlying34 hx hw (i := 0) rfl opensB
 obtain ⟨b, hb0, _, hb⟩ := struct_field Tryz.underlying34 hx hw (i := 1) rfl opensHeads2
 obtain ⟨c, hc0, _, hc⟩ := struct_field Tryz.underlying34 hx hw (i := 2) rfl opensIs2
 refine ⟨⟨a, b, c⟩, ⟨⟨hb0.1, hc0.1, fun h hh => (hb0.2 h hh).1⟩, ⟨hc0.2, fun h hh => (hb0.2 h hh).2⟩⟩, by rw [hl, cel34]; rfl, fun i p y hp hy => ?_⟩
 match i with
 | 0 => cases hp; exact at1 ha rfl cel4 y hy
 | 1 => cases hp; exact at1 hb rfl cel32 y hy
 | 2 => cases hp; exact at1 hc rfl cel27 y hy
 | i + 3 => cases hp
theorem opensStates2 : Opens Tryz.prog W 22 (fun s : Sl StateP => [s.enc StateP.enc]) (fun s => s.l.length < 2 ^ 60 ∧ ∀ x, x ∈ s.l → x.ok0 ∧ x.rg) :=
 opens_mono (opens_slice Tryz.underlying22 opensState2 cel34 (by decide) (fun _ => rfl) (of_decide_eq_true (by kernel_rfl))) fun s h => ⟨reach60 h.1, h.2⟩
structure AutoA.ok2 (x : AutoA) : Prop where
 len : x.L.l.length < 2 ^ 60
 each : ∀ s, s ∈ x.L.l → s.ok0 ∧ s.rg
theorem opensAuto2 : Opens Tryz.prog W 24 AutoA.enc AutoA.ok2 := by
 intro H enc fuel cs x hx hw
 have hl := struct_len Tryz.underlying24 hx
 obtain ⟨a, ha0, _, ha⟩ := struct_field Tryz.underlying24 hx hw (i := 0) rfl opensStates2
 obtain ⟨b, _, _, hb⟩ := struct_field Tryz.underlying24 hx hw (i := 1) rfl opensI2
 refine ⟨⟨a, b⟩, ⟨ha0.1, ha0.2⟩, by rw [hl, cel24]; rfl, fun i p y hp hy => ?_⟩
 match i with
 | 0 => cases hp; exact at1 ha rfl cel22 y hy
 | 1 => cases hp; exact at1 hb rfl cel3 y hy
 | i + 2 => cases hp
end
theorem arg_auto2 {W : World} {H : Type} {enc : TypeId × Value → H} {base : Nat} {v : Value} {d : DataW H} {ps : List MemPlace} (hv : Value.okWide Tryz.prog W .any base 24 v) (h : DataW.Trod enc Tryz.prog W 0 (fun _ => true) true 24 v d ps)
  (hw : (d.weights Tryz.prog 24).all (· ≤ reachBytes) = true) : ∃ x : AutoA, x.ok2 ∧ RepA (Vw.all W) (.agg (x.enc.map .p)) v := by
 obtain ⟨fuel, h⟩ := h
 obtain ⟨cs, rfl, _⟩ : ∃ cs, v = .agg cs ∧ True := by
  unfold Value.okWide at hv
  rw [Tryz.underlying24] at hv
  obtain ⟨cs, h1, _⟩ := hv
  exact ⟨cs, h1, trivial⟩
 obtain ⟨x, h1, h2, h3⟩ := opensAuto2 H enc fuel _ _ h hw
 exact ⟨x, h1, arg_agg h2 h3⟩
end Go.Vm
