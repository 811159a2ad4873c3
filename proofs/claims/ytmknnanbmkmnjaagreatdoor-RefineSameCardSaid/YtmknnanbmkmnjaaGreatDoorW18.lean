/- Part 18 of the texts that the claim leans on: a judgement on the program over plain values, its soundness, and contracts of functions. -/
import Derived.Test.YtmknnanbmkmnjaaGreatDoorW17
import Derived.ChangeArms
import Derived.OpenShut
import Derived.MakeChecks
set_option linter.unusedVariables false
set_option linter.unusedSimpArgs false
set_option linter.unusedVariables false
namespace Go.Vm
open Go Go.Proofs
attribute [local irreducible] wpL
set_option maxRecDepth 20000 in
theorem classes_ok (L : Sl StateP) (root : Int) (hL : L.l.length ≤ 4096) (ht : ∀ s, s ∈ L.l → s.tn) (hz : autoB L.l root = 0) : Pure En 44 [.agg ((AutoP.enc L root).map .p)] (.p (.sl ((classL L.l root).map eInt))) := by
 refine pure_walk [(0, .agg ((AutoP.enc L root).map .p))] Tryz.func44 rfl rfl rfl fun g hwo hwt => ?_
 show Wc En _ (Tryz.f44.body.getD .skip) [] (Sx 119 _ _ _ _ _ _)
 unfold Tryz.f44
 simp only [Option.getD_some]
 refine wc_seq (wc_reg fun K hK => ?_)
 refine x_box rfl rfl rfl rfl rfl ?_
 refine x_assign rfl rfl rfl ?_
 refine x_nil (hK _ (go_seq (wc_seq (wc_reg fun K hK => ?_))))
 refine x_ldLA rfl rfl rfl isag24 sz24 rfl rfl ?_
 refine x_callM rfl rfl rfl (by repeat (first | exact ho_nil | refine ho_cons (by first | rfl | exact rd_ho (by assumption)) ?_)) okf43 (idle_ok (by omega) (by omega) L root (by omega) (fun s hs => (ht s hs).ok) (fun s hs => by have := (ht s hs).vars; omega) hz) ?_
 refine x_assign rfl rfl rfl ?_
 refine x_nil (hK _ (go_seq (wc_seq (wc_reg fun K hK => ?_))))
 obtain ⟨mo, hmo⟩ : ∃ o, o = Ob.map (esM (metL L.l (reachL L.l root))) (metL L.l (reachL L.l root)).length := ⟨_, rfl⟩
 rw [← hmo]
 obtain ⟨D, hD⟩ : ∃ D, D = idleD (idleB L.l root) L.l := ⟨_, rfl⟩
 rw [← hD]
 refine x_fa rfl rfl rfl fld24_0 rfl ?_
 refine x_ldL rfl rfl rfl isag22 rfl rfl ?_
 refine x_len rfl rfl rfl (by first | assumption | exact Rd.enc) und22 ?_
 refine x_mkslice rfl rfl rfl rfl el27 zero3 inf3 rfl (by omega) (by omega) ?_
 refine x_assign rfl rfl rfl ?_
 refine x_nil (hK _ (go_seq (wc_seq (wc_reg fun K hK => ?_))))
 refine x_fa rfl rfl rfl fld24_0 rfl ?_
 refine x_ldL rfl rfl rfl isag22 rfl rfl ?_
 refine x_len rfl rfl rfl (by first | assumption | exact Rd.enc) und22 ?_
 refine x_mkslice rfl rfl rfl rfl el35 zero9 inf9 rfl (by omega) (by omega) ?_
 refine x_assign rfl rfl rfl ?_
 refine x_nil (hK _ (go_seq (wc_seq (wc_seq (wc_reg fun K hK => ?_)))))
 refine x_fa rfl rfl rfl fld24_0 rfl ?_
 refine x_ldL rfl rfl rfl isag22 rfl rfl ?_
 refine x_len rfl rfl rfl (by first | assumption | exact Rd.enc) und22 ?_
 refine x_move rfl rfl rfl ?_
 refine x_nil (hK _ (go_seq (wc_block ?_)))
 refine xc_loopG [(1, _), (3, _), (4, _), (5, _), (31, _), (32, _)] [(1, _)] (fun i : Nat => [(33, .p (.int .i64 i))]) (fun i : Nat => []) (fun i : Nat => g.ext [mo, .map (esI D) D.length, .cells ((List.replicate L.l.length (0 : Int)).map eI), .cells ((fillL (⟨#[]⟩ : ByteArray) ((L.l.take i).map (signB D)) L.l.length).map eBy)] []) (fun i : Nat => i ≤ L.l.length) (fun i : Nat => L.l.length - i) 0 (by repeat first | exact trivial | refine .intro rfl ?_) (by repeat first | exact trivial | refine .intro rfl ?_) (by rw [zerosI, zerosS]; rfl) (Nat.zero_le _) ?_
 rintro i R0 hR1_0 hR2_0 hi b rb
 refine wc_seq (wc_reg fun K hK => ?_)
 refine x_bin rfl rfl rfl rfl rfl ?_
 refine x_nil (hK _ (go_seq (wc_seq ?_)))
 refine xc_cond _ rfl (fun hc0 => ?_) (fun hc0 => ?_)
 ·have hlt : i < L.l.length := by simpa using hc0
  obtain ⟨s, es⟩ : ∃ s, L.l[i]? = some s := ⟨_, List.getElem?_eq_getElem hlt⟩
  have hms : s ∈ L.l := List.mem_of_getElem? es
  have htl : ((L.l.take i).map (signB D)).length = i := by simp; omega
  refine wc_skip (go_seq (wc_seq (wc_block (wc_seq (wc_reg fun K hK => ?_)))))
  refine x_move rfl rfl rfl ?_
  refine x_ia rfl rfl rfl (by first | assumption | exact Rd.enc) rfl und22 sz34 rfl (by assumption) rfl ?_
  refine x_ldRA rfl rfl rfl isag34 sz34 rfl ?_
  refine x_alloc rfl rfl rfl zero34 rfl ?_
  refine x_assign rfl rfl rfl ?_
  refine x_stL rfl rfl rfl sz34 rfl rfl rfl rfl ?_
  refine x_nil (hK _ (go_seq (wc_reg fun K hK => ?_)))
  refine x_move rfl rfl rfl ?_
  refine x_move rfl rfl rfl ?_
  refine x_ldLA rfl rfl rfl isag34 sz34 rfl rfl ?_
  refine x_move rfl rfl rfl ?_
  refine x_call rfl rfl rfl (by repeat (first | exact ho_nil | refine ho_cons (by first | rfl | exact rd_ho (by assumption)) ?_)) okf69 (sign_ok (g0 := g.ext [mo, .map (esI D) D.length, .cells ((List.replicate L.l.length (0 : Int)).map eI), .cells ((fillL (⟨#[]⟩ : ByteArray) ((L.l.take i).map (signB D)) L.l.length).map eBy)] []) (id := g.objs.length + 1) (by rw [ext_obj]; rfl) s (ht s hms)) ?_
  refine x_iaA rfl rfl rfl rfl und35 sz9 rfl (by omega) (by omega) ?_
  refine x_stP (n := 0) rfl hwo rfl rfl sz9 rfl rfl rfl (by rw [fillL_len (by omega)]; omega) ?_
  refine x_nil (hK _ (go_blk (go_seq (wc_reg fun K hK => ?_))))
  refine x_inc rfl rfl rfl rfl (by omega) ?_
  refine x_move rfl rfl rfl ?_
  refine x_nil (hK _ ?_); clear hK K
  exact hR1_0 (i + 1) _ _ _ _ _ hlt (by omega) (by repeat first | exact trivial | refine .intro rfl ?_) (by repeat first | exact trivial | refine .intro rfl ?_) (base_step es htl hlt)
 ·rw [show fillL (⟨#[]⟩ : ByteArray) ((L.l.take i).map (signB D)) L.l.length = L.l.map (signB D) from by rw [List.take_of_length_le (by simp at hc0; omega)]; exact fillL_all (by simp)]
  obtain ⟨B, hB⟩ : ∃ B, B = L.l.map (signB D) := ⟨_, rfl⟩
  have hBl : B.length = L.l.length := by rw [hB]; simp
  have hBs : ∀ i, (B.getD i default).size ≤ 1074840581 := fun i => by rw [hB]; exact base_size ht i
  rw [← hB]
  refine wc_exit ?_
  refine go_seq_exit ?_
  refine hR2_0 _ _ (by simp) ?_
  refine go_blk_exit (go_seq (wc_seq (wc_reg fun K hK => ?_)))
  refine x_assign rfl rfl rfl ?_
  refine x_nil (hK _ (go_seq (wc_block ?_)))
  refine xc_loopG [(1, _), (5, _), (31, _), (32, _), (33, _)] [(1, _)] (fun x : Nat × List Int × Nat × List Ob × Nat => [(4, .arr (g.objs.length + x.2.2.2.2) 0 L.l.length L.l.length 1), (8, .p (.int .i64 x.2.2.1))]) (fun x : Nat × List Int × Nat × List Ob × Nat => []) (fun x : Nat × List Int × Nat × List Ob × Nat => g.ext x.2.2.2.1 []) (fun x : Nat × List Int × Nat × List Ob × Nat => x.2.2.2.1[3]? = some (.cells (B.map eBy)) ∧ x.2.2.2.1[x.2.2.2.2]? = some (.cells (x.2.1.map eI)) ∧ ClsOk L.l.length x.2.1 x.2.2.1 ∧ L.l.length + 1 ≤ x.1 + x.2.2.1 ∧ classF B L.l x.1 x.2.1 x.2.2.1 = classL L.l root) (fun x : Nat × List Int × Nat × List Ob × Nat => x.1) (L.l.length + 1, List.replicate L.l.length 0, 0, [mo, .map (esI D) D.length, .cells ((List.replicate L.l.length (0 : Int)).map eI), .cells (B.map eBy)], 2) (by repeat first | exact trivial | refine .intro rfl ?_) (by repeat first | exact trivial | refine .intro rfl ?_) rfl ⟨rfl, rfl, ClsOk.start, Nat.le_refl _, by subst hB hD; rfl⟩ ?_
  rintro ⟨m, cls, cnt, os, ic⟩ R1 hR1_1 hR2_1 ⟨ho3, hoc, hco, hml, hcf⟩ b rb
  dsimp only at ho3 hoc hco hml hcf ⊢
  have h3l := (List.getElem?_eq_some_iff.1 ho3).1
  have hcl := hco.len
  refine wc_block (wc_seq (wc_reg fun K hK => ?_))
  refine x_fa rfl rfl rfl fld24_0 rfl ?_
  refine x_ldL rfl rfl rfl isag22 rfl rfl ?_
  refine x_len rfl rfl rfl (by first | assumption | exact Rd.enc) und22 ?_
  refine x_mkslice rfl rfl rfl rfl el27 zero3 inf3 rfl (by omega) (by omega) ?_
  refine x_mkmap rfl rfl ?_
  refine x_assign rfl rfl rfl ?_
  refine x_assign rfl rfl rfl ?_
  refine x_nil (hK _ (go_seq (wc_seq (wc_seq (wc_reg fun K hK => ?_)))))
  refine x_fa rfl rfl rfl fld24_0 rfl ?_
  refine x_ldL rfl rfl rfl isag22 rfl rfl ?_
  refine x_len rfl rfl rfl (by first | assumption | exact Rd.enc) und22 ?_
  refine x_move rfl rfl rfl ?_
  refine x_nil (hK _ (go_seq (wc_block ?_)))
  refine xc_loopG [(1, _), (4, _), (5, _), (8, _), (9, _), (10, _), (31, _), (32, _), (33, _), (51, _), (52, _)] [(1, _)] (fun i : Nat => [(53, .p (.int .i64 i))]) (fun i : Nat => []) (fun i : Nat => g.ext (os ++ [.cells ((fillL (0 : Int) (((keysOf cls B L.l).take i).foldl (fun p k => (seenAdd p.1 k, p.2 ++ [((idxA (seenAdd p.1 k) k : Nat) : Int)])) (([] : List ByteArray), ([] : List Int))).2 L.l.length).map eI), .map (esN (((keysOf cls B L.l).take i).foldl (fun p k => (seenAdd p.1 k, p.2 ++ [((idxA (seenAdd p.1 k) k : Nat) : Int)])) (([] : List ByteArray), ([] : List Int))).1) (((keysOf cls B L.l).take i).foldl (fun p k => (seenAdd p.1 k, p.2 ++ [((idxA (seenAdd p.1 k) k : Nat) : Int)])) (([] : List ByteArray), ([] : List Int))).1.length]) []) (fun i : Nat => i ≤ L.l.length) (fun i : Nat => L.l.length - i) 0 (by repeat first | exact trivial | refine .intro rfl ?_) (by repeat first | exact trivial | refine .intro rfl ?_) (by rw [zerosI, List.append_assoc]; rfl) (Nat.zero_le _) ?_
  rintro i R2 hR1_2 hR2_2 hi b rb
  refine wc_seq (wc_reg fun K hK => ?_)
  refine x_bin rfl rfl rfl rfl rfl ?_
  refine x_nil (hK _ (go_seq (wc_seq ?_)))
  refine xc_cond _ rfl (fun hc1 => ?_) (fun hc1 => ?_)
  ·have hlt : i < L.l.length := by simpa using hc1
   obtain ⟨s, es⟩ : ∃ s, L.l[i]? = some s := ⟨_, List.getElem?_eq_getElem hlt⟩
   have hms : s ∈ L.l := List.mem_of_getElem? es
   have hst := ht s hms
   have hkl := keysOf_at (cls := cls) (base := B) es
   obtain ⟨P, hP⟩ : ∃ P, P = ((keysOf cls B L.l).take i).foldl (fun p k => (seenAdd p.1 k, p.2 ++ [((idxA (seenAdd p.1 k) k : Nat) : Int)])) (([] : List ByteArray), ([] : List Int)) := ⟨_, rfl⟩
   have hPl : P.2.length = i := by rw [hP]; exact rnd_len (by rw [keysOf_len]; omega)
   rw [← hP]
   have hci := hco.at_ (i := i)
   have hcg : (cls.map eI)[0 + ((i : Nat) : Int).toNat * 1]? = some (eI (cls.getD i 0)) := getI_at (by omega)
   have hbg : (B.map eBy)[0 + ((i : Nat) : Int).toNat * 1]? = some (eBy (B.getD i default)) := getB_at (by omega)
   have hbs := hBs i
   have hz1 := itoa_size (n := cls.getD i 0) (by omega) (by omega)
   have hA : (keyA cls B i).size ≤ 1074840581 + 22 := by unfold keyA; simp only [ByteArray.size_append]; have : colonB.size = 1 := rfl; omega
   refine wc_skip (go_seq (wc_seq (wc_block (wc_seq (wc_reg fun K hK => ?_)))))
   refine x_move rfl rfl rfl ?_
   refine x_ia rfl rfl rfl (by first | assumption | exact Rd.enc) rfl und22 sz34 rfl (by assumption) rfl ?_
   refine x_ldRA rfl rfl rfl isag34 sz34 rfl ?_
   refine x_alloc rfl rfl rfl zero34 rfl ?_
   refine x_assign rfl rfl rfl ?_
   refine x_stL rfl rfl rfl sz34 rfl rfl rfl rfl ?_
   refine x_nil (hK _ (go_seq (wc_seq ?_)))
   refine xc_drw [0, 1, 2, 3, 4, 5, 6, 7, 8, 9, 10, 11] mixed (by kernel_rfl) fun K hK => ?_
   refine x_move rfl rfl rfl ?_
   refine x_move rfl rfl rfl ?_
   refine x_iaA rfl rfl rfl rfl und27 sz3 rfl (by omega) (by omega) ?_
   refine x_ldO rfl rfl rfl isag3 (by rw [ext_obj]; exact at_o hoc) hcg ?_
   refine x_call rfl rfl rfl (by repeat (first | exact ho_nil | refine ho_cons (by first | rfl | exact rd_ho (by assumption)) ?_)) okf70 (itoa_pure (by omega) (by omega) _) ?_
   refine x_addS rfl rfl rfl rfl (by show _ + 1 < _; omega) ?_
   refine x_move rfl rfl rfl ?_
   refine x_move rfl rfl rfl ?_
   refine x_iaA rfl rfl rfl rfl und35 sz9 rfl (by omega) (by omega) ?_
   refine x_ldO rfl rfl rfl isag9 (by rw [ext_obj]; exact at_o ho3) hbg ?_
   refine x_addS rfl rfl rfl rfl (by rw [ByteArray.size_append]; show _ + 1 + _ < _; omega) ?_
   refine x_assign rfl rfl rfl ?_
   refine x_nil (hK _ (go_seq (wc_seq (wc_seq (wc_reg fun K hK => ?_)))))
   refine x_fa rfl rfl rfl fld34_1 rfl ?_
   refine x_ldL rfl rfl rfl isag32 rfl rfl ?_
   refine x_len rfl rfl rfl (by first | assumption | exact Rd.enc) und32 ?_
   refine x_move rfl rfl rfl ?_
   refine x_nil (hK _ (go_seq (wc_block ?_)))
   refine xc_loop [(1, _), (4, _), (5, _), (8, _), (9, _), (10, _), (11, _), (31, _), (32, _), (33, _), (51, _), (52, _), (53, _), (70, _), (71, _)] [(1, _)] (fun a : Nat => [(13, .p (.str (keyH cls (keyA cls B i) (s.heads.l.take a)))), (72, .p (.int .i64 a))]) (fun a : Nat => a ≤ s.heads.l.length) (fun a : Nat => s.heads.l.length - a) 0 (by repeat first | exact trivial | refine .intro rfl ?_) (by repeat first | exact trivial | refine .intro rfl ?_) (Nat.zero_le _) ?_
   rintro a R3 hR1_3 hR2_3 ha b rb
   refine wc_seq (wc_reg fun K hK => ?_)
   refine x_bin rfl rfl rfl rfl rfl ?_
   refine x_nil (hK _ (go_seq (wc_seq ?_)))
   refine xc_cond _ rfl (fun hc2 => ?_) (fun hc2 => ?_)
   ·have hlt2 : a < s.heads.l.length := by simpa using hc2
    obtain ⟨h, eh⟩ : ∃ h, s.heads.l[a]? = some h := ⟨_, List.getElem?_eq_getElem hlt2⟩
    have hmh : h ∈ s.heads.l := List.mem_of_getElem? eh
    have hht := hst.each h hmh
    have hhl := hst.heads
    have hkl2 := hht.kids
    have hz4 := keyH_size hco hL (s.heads.l.take a) (keyA cls B i) (fun q hq => hst.each q (List.mem_of_mem_take hq))
    have hz5 := take_len (l := s.heads.l) (i := a)
    have hz7 : keyH cls (keyA cls B i) (s.heads.l.take (a + 1)) = keyK cls (keyH cls (keyA cls B i) (s.heads.l.take a)) h.kids.l := foldl_succ eh
    refine wc_skip (go_seq (wc_seq (wc_block (wc_seq (wc_reg fun K hK => ?_)))))
    refine x_ia rfl rfl rfl (by first | assumption | exact Rd.enc) rfl und32 sz37 rfl (by assumption) rfl ?_
    refine x_ldRA rfl rfl rfl isag37 sz37 rfl ?_
    refine x_alloc rfl rfl rfl zero37 rfl ?_
    refine x_stL rfl rfl rfl sz37 rfl rfl rfl rfl ?_
    refine x_nil (hK _ (go_seq (wc_seq (wc_reg fun K hK => ?_))))
    refine x_fa rfl rfl rfl fld37_2 rfl ?_
    refine x_ldL rfl rfl rfl isag27 rfl rfl ?_
    refine x_len rfl rfl rfl (by first | assumption | exact Rd.enc) und27 ?_
    refine x_move rfl rfl rfl ?_
    refine x_nil (hK _ (go_seq (wc_block ?_)))
    refine xc_loop [(1, _), (4, _), (5, _), (8, _), (9, _), (10, _), (11, _), (31, _), (32, _), (33, _), (51, _), (52, _), (53, _), (70, _), (71, _), (72, _), (77, _), (78, _)] [(1, _)] (fun c : Nat => [(13, .p (.str (keyK cls (keyH cls (keyA cls B i) (s.heads.l.take a)) (h.kids.l.take c)))), (79, .p (.int .i64 c))]) (fun c : Nat => c ≤ h.kids.l.length) (fun c : Nat => h.kids.l.length - c) 0 (by repeat first | exact trivial | refine .intro rfl ?_) (by repeat first | exact trivial | refine .intro rfl ?_) (Nat.zero_le _) ?_
    rintro c R4 hR1_4 hR2_4 hc b rb
    refine wc_seq (wc_reg fun K hK => ?_)
    refine x_bin rfl rfl rfl rfl rfl ?_
    refine x_nil (hK _ (go_seq (wc_seq ?_)))
    refine xc_cond _ rfl (fun hc3 => ?_) (fun hc3 => ?_)
    ·have hlt3 : c < h.kids.l.length := by simpa using hc3
     obtain ⟨q, eq⟩ : ∃ q, h.kids.l[c]? = some q := ⟨_, List.getElem?_eq_getElem hlt3⟩
     have hqr := auto_kid hz hms hmh (List.mem_of_getElem? eq)
     have hcq := hco.at_ (i := q.toNat)
     have hqg : (cls.map eI)[0 + q.toNat * 1]? = some (eI (cls.getD q.toNat 0)) := getI_q (by omega)
     have hz8 := keyK_size hco hL (h.kids.l.take c) (keyH cls (keyA cls B i) (s.heads.l.take a))
     have hz9 := take_len (l := h.kids.l) (i := c)
     have hz2 := itoa_size (n := cls.getD q.toNat 0) (by omega) (by omega)
     have hz6 : keyK cls (keyH cls (keyA cls B i) (s.heads.l.take a)) (h.kids.l.take (c + 1)) = keyK cls (keyH cls (keyA cls B i) (s.heads.l.take a)) (h.kids.l.take c) ++ (spB ++ itoaB (cls.getD q.toNat 0)) := foldl_succ eq
     refine wc_skip (go_seq (wc_seq (wc_block (wc_seq (wc_reg fun K hK => ?_)))))
     refine x_ia rfl rfl rfl (by first | assumption | exact Rd.enc) rfl und27 sz3 rfl (by assumption) rfl ?_
     refine x_ldR rfl rfl rfl isag3 rfl ?_
     refine x_assign rfl rfl rfl ?_
     refine x_nil (hK _ (go_seq (wc_reg fun K hK => ?_)))
     refine x_move rfl rfl rfl ?_
     refine x_move rfl rfl rfl ?_
     refine x_move rfl rfl rfl ?_
     refine x_iaA rfl rfl rfl rfl und27 sz3 rfl (by omega) (by omega) ?_
     refine x_ldO rfl rfl rfl isag3 (by rw [ext_obj]; exact at_o hoc) hqg ?_
     refine x_call rfl rfl rfl (by repeat (first | exact ho_nil | refine ho_cons (by first | rfl | exact rd_ho (by assumption)) ?_)) okf70 (itoa_pure (by omega) (by omega) _) ?_
     refine x_addS rfl rfl rfl rfl (by show 1 + _ < _; omega) ?_
     refine x_addS rfl rfl rfl rfl (by rw [ByteArray.size_append]; show _ + (1 + _) < _; omega) ?_
     refine x_assign rfl rfl rfl ?_
     refine x_nil (hK _ (go_blk (go_seq (wc_reg fun K hK => ?_))))
     refine x_inc rfl rfl rfl rfl (by omega) ?_
     refine x_move rfl rfl rfl ?_
     refine x_nil (hK _ ?_); clear hK K
     exact hR1_4 (c + 1) _ _ _ _ hlt3 (by omega) (by repeat (first | exact trivial | refine And.intro rfl ?_ | refine And.intro (by rw [hz6]; rfl) ?_)) (by repeat first | exact trivial | refine .intro rfl ?_)
    ·have hc3f : h.kids.l.take c = h.kids.l := List.take_of_length_le (by simp at hc3; omega)
     refine wc_exit ?_
     refine go_seq_exit ?_
     refine hR2_4 _ _ (by simp) ?_
     refine go_blk_exit (go_blk (go_seq (wc_reg fun K hK => ?_)))
     refine x_inc rfl rfl rfl rfl (by omega) ?_
     refine x_move rfl rfl rfl ?_
     refine x_nil (hK _ ?_); clear hK K
     exact hR1_3 (a + 1) _ _ _ _ hlt2 (by omega) (by repeat (first | exact trivial | refine And.intro rfl ?_ | refine And.intro (by rw [hz7, hc3f]; rfl) ?_)) (by repeat first | exact trivial | refine .intro rfl ?_)
   ·rw [show keyH cls (keyA cls B i) (s.heads.l.take a) = keyB cls B i s from by rw [List.take_of_length_le (by simp at hc2; omega)]; rfl]
    obtain ⟨kb, hkb⟩ : ∃ kb, kb = keyB cls B i s := ⟨_, rfl⟩
    rw [← hkb]
    rw [← hkb] at hkl
    refine wc_exit ?_
    refine go_seq_exit ?_
    refine hR2_3 _ _ (by simp) ?_
    refine go_blk_exit (go_seq (wc_seq (wc_reg fun K hK => ?_)))
    refine x_move rfl rfl rfl ?_
    refine x_move rfl rfl rfl ?_
    refine x_lookup rfl rfl rfl rfl at_m und101 und9 zv3 rfl (esN_ok _) (findN _ _) ?_
    refine x_move rfl rfl rfl ?_
    refine x_extract rfl rfl rfl rfl ?_
    refine x_extract rfl rfl rfl rfl ?_
    refine x_assign rfl rfl rfl ?_
    refine x_assign rfl rfl rfl ?_
    refine x_nil (hK _ (go_seq (wc_seq (wc_seq (wc_reg fun K hK => ?_)))))
    refine x_move rfl rfl rfl ?_
    refine x_not rfl rfl rfl ?_
    refine x_nil (hK _ (go_seq ?_))
    refine xc_cond _ rfl (fun hc4 => ?_) (fun hc4 => ?_)
    ·have hn : kb ∉ P.1 := by simpa using hc4
     refine wc_seq (wc_reg fun K hK => ?_)
     refine x_move rfl rfl rfl ?_
     refine x_lenM rfl rfl rfl und101 at_m (esN_len _) ?_
     refine x_assign rfl rfl rfl ?_
     refine x_nil (hK _ (go_seq (wc_reg fun K hK => ?_)))
     refine x_move rfl rfl rfl ?_
     refine x_move rfl rfl rfl ?_
     refine x_move rfl rfl rfl ?_
     refine x_mapput (Or.inl rfl) rfl hwo rfl rfl rfl at_m und101 und9 rfl (esN_ok _) rfl ?_
     refine x_nil (hK _ (go_seq (wc_reg fun K hK => ?_)))
     refine x_move rfl rfl rfl ?_
     refine x_move rfl rfl rfl ?_
     refine x_move rfl rfl rfl ?_
     refine x_iaA rfl rfl rfl rfl und27 sz3 rfl (by omega) (by omega) ?_
     refine x_stP (n := 0) rfl hwo rfl rfl sz3 rfl rfl (by rw [set_m]; exact at_c) (by rw [fillL_len (by omega)]; omega) ?_
     refine x_nil (hK _ (go_blk (go_seq (wc_reg fun K hK => ?_))))
     refine x_inc rfl rfl rfl rfl (by omega) ?_
     refine x_move rfl rfl rfl ?_
     refine x_nil (hK _ ?_); clear hK K
     exact hR1_2 (i + 1) _ _ _ _ _ hlt (by omega) (by repeat first | exact trivial | refine .intro rfl ?_) (by repeat first | exact trivial | refine .intro rfl ?_) (rnd_new hP hkl hPl hlt hn)
    ·have hn : kb ∈ P.1 := by simpa using hc4
     rw [if_pos hn]
     refine wc_skip (go_seq (wc_reg fun K hK => ?_))
     refine x_move rfl rfl rfl ?_
     refine x_move rfl rfl rfl ?_
     refine x_move rfl rfl rfl ?_
     refine x_iaA rfl rfl rfl rfl und27 sz3 rfl (by omega) (by omega) ?_
     refine x_stP (n := 0) rfl hwo rfl rfl sz3 rfl rfl at_c (by rw [fillL_len (by omega)]; omega) ?_
     refine x_nil (hK _ (go_blk (go_seq (wc_reg fun K hK => ?_))))
     refine x_inc rfl rfl rfl rfl (by omega) ?_
     refine x_move rfl rfl rfl ?_
     refine x_nil (hK _ ?_); clear hK K
     exact hR1_2 (i + 1) _ _ _ _ _ hlt (by omega) (by repeat first | exact trivial | refine .intro rfl ?_) (by repeat first | exact trivial | refine .intro rfl ?_) (rnd_old hP hkl hPl hlt hn)
  ·have hfin : ((keysOf cls B L.l).take i).foldl (fun p k => (seenAdd p.1 k, p.2 ++ [((idxA (seenAdd p.1 k) k : Nat) : Int)])) (([] : List ByteArray), ([] : List Int)) = rndK (keysOf cls B L.l) := foldl_all (by rw [keysOf_len]; simp at hc1; omega)
   rw [hfin]
   have hr := hco.next (base := B)
   have hup := hco.up (base := B)
   obtain ⟨P, hP⟩ : ∃ P, P = rndK (keysOf cls B L.l) := ⟨_, rfl⟩
   rw [← hP] at hr hup ⊢
   rw [fillL_all (by rw [hr.len]; omega)]
   refine wc_exit ?_
   refine go_seq_exit ?_
   refine hR2_2 _ _ (by simp) ?_
   refine go_blk_exit (go_seq (wc_seq (wc_reg fun K hK => ?_)))
   refine x_move rfl rfl rfl ?_
   refine x_assign rfl rfl rfl ?_
   refine x_nil (hK _ (go_seq (wc_seq (wc_seq (wc_reg fun K hK => ?_)))))
   refine x_move rfl rfl rfl ?_
   refine x_lenM rfl rfl rfl und101 at_m (esN_len _) ?_
   refine x_move rfl rfl rfl ?_
   refine x_bin rfl rfl rfl rfl rfl ?_
   refine x_nil (hK _ (go_seq ?_))
   refine xc_cond _ rfl (fun hc5 => ?_) (fun hc5 => ?_)
   ·have hpc : P.1.length = cnt := by simp at hc5; omega
    refine wc_seq (wc_reg fun K hK => ?_)
    refine x_move rfl rfl rfl ?_
    refine x_assign rfl rfl rfl ?_
    refine x_nil (hK _ (go_seq (wc_ret (go_seq_ret (go_blk_ret ?_)))))
    refine hR2_1 _ _ (by simp) ?_
    refine go_blk_ret ?_
    have hfin2 := seal_reach (g := g) (os := os ++ [.cells (P.2.map eI), .map (esN P.1) P.1.length]) (i := os.length) (us := P.2) hwo at_c
    rw [hr.len] at hfin2
    have hle := hco.le
    obtain ⟨m, rfl⟩ : ∃ m', m = m' + 1 := ⟨m - 1, by omega⟩
    exact x_end1 (Or.inr rfl) rfl rfl rfl hfin2 rfl rfl (by rw [← hcf, classF_end (by rw [← hP]; exact hpc), ← hP])
   ·have hpc : P.1.length ≠ cnt := by simp at hc5; omega
    refine wc_skip (go_seq (wc_reg fun K hK => ?_))
    refine x_move rfl rfl rfl ?_
    refine x_lenM rfl rfl rfl und101 at_m (esN_len _) ?_
    refine x_assign rfl rfl rfl ?_
    refine x_nil (hK _ (go_blk ?_))
    have hle := hco.le
    obtain ⟨m, rfl⟩ : ∃ m' , m = m' + 1 := ⟨m - 1, by omega⟩
    exact hR1_1 (m, P.2, P.1.length, os ++ [.cells (P.2.map eI), .map (esN P.1) P.1.length], os.length) _ _ _ _ _ ⟨at_o ho3, at_c, hr, by show _ ≤ m + P.1.length; omega, by show classF B L.l m P.2 P.1.length = _; rw [← hcf, classF_go (by rw [← hP]; exact hpc), ← hP]⟩ (Nat.lt_succ_self m) (by repeat first | exact trivial | refine .intro rfl ?_) (by repeat first | exact trivial | refine .intro rfl ?_) rfl
end Go.Vm
set_option linter.unusedVariables false
namespace Go.Vm
open Go Go.Proofs
section
variable {E : Env} {qt : Bool} {ops : Array Oper} {l : List Oper} {K : St → Prop}
variable {nt : Nat} {esc : Nat → Bool} {g : G} {os : List Ob} {ts : List Nat}
variable {d : Nat} {ty : TypeId} {pos : String} {after : Array Edge} {gd : Option (Nat × Bool)}
variable {b : Nat → V} {L : List (Nat × V)} {rb : Nat → Option (Nat × List V)} {R : List (Nat × (Nat × List V))}
theorem x_clearO {t e : TypeId} {y : Operand} {id off len cap : Nat} {z : V} {cs : List V} (h : wX ops nt L gd = some true) (hx : evX E L y = some (.arr id off len cap 1)) (he : elemOf E t = some e) (hz : zeroOf E e = some [z]) (hone : one z = true) (hlen : 0 < len)
  (ho : g.objs[id]? = some (.cells cs)) (hle : off + len ≤ cs.length)
  (k : wpL E qt ops l (Sx nt b L rb R esc (g.setObj id (.cells (cs.take off ++ List.replicate len z ++ cs.drop (off + len))))) K) :
  wpL E qt ops (⟨none, .call { callee := .builtin .clear, args := #[y], argTypes := #[t] }, ty, pos, after, gd⟩ :: l) (Sx nt b L rb R esc g) K := by
 refine x_op0 (v := .tup []) h rfl ?_ k
 have hargs : evL E (Sx nt b L rb R esc g) (#[y] : Array Operand).toList = some [.arr id off len cap 1] := by
  show evL E _ [y] = _
  simp only [evL, evS hx]
 have hg : (Sx nt b L rb R esc g).g.objs[id]? = some (.cells cs) := ho
 have hall : (List.replicate len z).all one = true := by rw [List.all_eq_true]; intro x hx; rw [(List.mem_replicate.1 hx).2]; exact hone
 simp only [stepV]
 rw [hargs]
 simp only [List.getElem?_toArray, List.getElem?_cons_zero, he, hz]
 rw [if_neg (by omega)]
 simp only [St.storeCells, hall, if_true, hg, put?, List.length_replicate]
 rw [if_pos hle]
 simp only [Option.map_some]
 rfl
end
def keepAt (us : List (List Int)) (i : Nat) : Prop := i = 0 ∨ us.getD i [] ≠ us.getD (i - 1) []
instance (us : List (List Int)) (i : Nat) : Decidable (keepAt us i) := by unfold keepAt; infer_instance
def compT (cs : List V) (us : List (List Int)) : Nat → List V
 | 0 => []
 | j + 1 => compT cs us j ++ if keepAt us j then [cs.getD j .undef] else []
def compU (us : List (List Int)) : Nat → List (List Int)
 | 0 => []
 | j + 1 => compU us j ++ if keepAt us j then [us.getD j []] else []
theorem compT_yes {cs : List V} {us : List (List Int)} {j : Nat} (h : keepAt us j) : compT cs us (j + 1) = compT cs us j ++ [cs.getD j .undef] := by
 show compT cs us j ++ (if keepAt us j then _ else _) = _
 rw [if_pos h]
theorem compT_no {cs : List V} {us : List (List Int)} {j : Nat} (h : ¬ keepAt us j) : compT cs us (j + 1) = compT cs us j := by
 show compT cs us j ++ (if keepAt us j then _ else _) = _
 rw [if_neg h, List.append_nil]
theorem compT_lead {cs : List V} {us : List (List Int)} : ∀ {j : Nat}, j ≤ cs.length → (∀ i, i < j → keepAt us i) → compT cs us j = cs.take j
 | 0, _, _ => by simp [compT]
 | j + 1, hj, h => by
  rw [compT_yes (h j (Nat.lt_succ_self j)), compT_lead (by omega) fun i hi => h i (by omega), List.take_succ_eq_append_getElem (by omega)]
  simp [List.getD_eq_getElem?_getD, List.getElem?_eq_getElem (show j < cs.length by omega)]
theorem RowsOf.at_ {cs : List V} {us : List (List Int)} (h : RowsOf cs us) {i : Nat} (hi : i < us.length) : ∃ k, cs[i]? = some (.sl ((us.getD i []).map fun a => [V.p (.int .i64 a)]) k) := by
 have h1 : cs[i]? = some (cs[i]'(by have := h.1; omega)) := List.getElem?_eq_getElem _
 obtain ⟨k, hk⟩ := h.2 i _ (us.getD i []) h1 (by rw [List.getD_eq_getElem?_getD, List.getElem?_eq_getElem hi]; rfl)
 exact ⟨k, by rw [h1, hk]⟩
theorem RowsOf.app {cs cs' : List V} {us us' : List (List Int)} (h : RowsOf cs us) (h' : RowsOf cs' us') : RowsOf (cs ++ cs') (us ++ us') := by
 refine ⟨by simp [h.1, h'.1], fun i c u hc hu => ?_⟩
 by_cases hi : i < cs.length
 ·rw [List.getElem?_append_left hi] at hc
  rw [List.getElem?_append_left (by have := h.1; omega)] at hu
  exact h.2 i c u hc hu
 ·have := h.1
  rw [List.getElem?_append_right (by omega)] at hc hu
  rw [h.1] at hc
  exact h'.2 _ c u hc hu
theorem compT_rows {cs : List V} {us : List (List Int)} (h : RowsOf cs us) : ∀ j, j ≤ us.length → RowsOf (compT cs us j) (compU us j)
 | 0, _ => RowsOf.nil
 | j + 1, hj => by
  have ih := compT_rows h j (by omega)
  show RowsOf (compT cs us j ++ (if keepAt us j then _ else _)) (compU us j ++ (if keepAt us j then _ else _))
  split
  ·refine ih.app ?_
   obtain ⟨k, hk⟩ := h.at_ (i := j) (by omega)
   rw [List.getD_eq_getElem?_getD, hk]
   exact RowsOf.nil.snoc _ k
  ·simpa using ih
def compX (cs : List V) (us : List (List Int)) (j : Nat) : List V := compT cs us j ++ cs.drop (compT cs us j).length
theorem compX_at {cs : List V} {us : List (List Int)} {j i : Nat} (h : (compT cs us j).length ≤ i) : (compX cs us j)[i]? = cs[i]? := by
 unfold compX
 rw [List.getElem?_append_right h, List.getElem?_drop]
 congr 1; omega
theorem compX_len {cs : List V} {us : List (List Int)} {j : Nat} (h : (compT cs us j).length ≤ cs.length) : (compX cs us j).length = cs.length := by
 unfold compX; simp; omega
theorem compX_yes {cs : List V} {us : List (List Int)} {j : Nat} {c : V} (h : keepAt us j) (hc : cs[j]? = some c) (hl : (compT cs us j).length < cs.length) : (compX cs us j).set (0 + (((compT cs us j).length : Nat) : Int).toNat * 1) c = compX cs us (j + 1) := by
 unfold compX
 rw [compT_yes h, List.getD_eq_getElem?_getD, hc]
 simp only [Int.toNat_natCast, Nat.zero_add, Nat.mul_one, Option.getD_some]
 rw [List.set_append_right _ _ (Nat.le_refl _), Nat.sub_self, List.drop_eq_getElem_cons hl, List.set_cons_zero]
 simp
theorem compX_no {cs : List V} {us : List (List Int)} {j : Nat} (h : ¬ keepAt us j) : compX cs us (j + 1) = compX cs us j := by unfold compX; rw [compT_no h]
theorem compX_start {cs : List V} {us : List (List Int)} {k : Nat} (hk : k ≤ cs.length) (h : ∀ i, i < k → keepAt us i) : compX cs us k = cs := by
 unfold compX
 rw [compT_lead hk h, List.length_take, Nat.min_eq_left hk, List.take_append_drop]
theorem compX_clear {cs : List V} {us : List (List Int)} {j n : Nat} {z : V} (hn : cs.length = n) (hl : (compT cs us j).length ≤ n) : (compX cs us j).take (0 + (compT cs us j).length * 1) ++ List.replicate (n - (compT cs us j).length) z ++ (compX cs us j).drop (0 + (compT cs us j).length * 1 + (n - (compT cs us j).length)) = compT cs us j ++ List.replicate (n - (compT cs us j).length) z := by
 have e := compX_len (cs := cs) (us := us) (j := j) (by omega)
 rw [List.drop_eq_nil_of_le (by omega), List.append_nil]
 unfold compX
 simp
theorem upd_same {g0 g : G} {id : Nat} {o : Ob} (hg : g = { g0 with wo := g0.objs.length, wt := g0.toks.length }) (hid : g0.objs[id]? = some o) (hw : g0.wo ≤ id) (ht : g0.wt ≤ g0.toks.length) {o' : Ob} (he : o = o') : G.mk g.objs g.toks (min g0.wo g.wo) (min g0.wt g.wt) = g0.upd id o' := by
 have hlt := (List.getElem?_eq_some_iff.1 hid).1
 rw [hg, ← at_start hid]
 exact at_end (by omega) ht he
end Go.Vm
set_option linter.unusedVariables false
namespace Go.Vm
open Go Go.Proofs
attribute [local irreducible] wpL
set_option maxRecDepth 20000 in
theorem compact_ok {g0 : G} {id : Nat} {cs : List V} {us : List (List Int)} (hid : g0.objs[id]? = some (.cells cs)) (hcu : RowsOf cs us) (hul : ∀ u, u ∈ us → u.length < 2 ^ 60) (hn : us.length < 2 ^ 60) (hwo : g0.wo ≤ id) (hwt : g0.wt ≤ g0.toks.length) : CallsAt En g0 48 [.arr id 0 us.length us.length 1, .fn (.func 49) []] (.arr id 0 (compT cs us us.length).length us.length 1) (g0.upd id (.cells (compT cs us us.length ++ List.replicate (us.length - (compT cs us us.length).length) (.p .nilsl)))) := by
 have hidl := (List.getElem?_eq_some_iff.1 hid).1
 have hcl := hcu.1
 have hgl : ∀ i, (us.getD i []).length < 2 ^ 60 := fun i => by
  rw [List.getD_eq_getElem?_getD]
  cases e : us[i]? with
  | none => exact Nat.zero_lt_succ _
  | some u => exact hul u (List.mem_of_getElem? e)
 have hnone : ∀ {j : Nat}, (∀ i, i < j → keepAt us i) → us.length ≤ j → compT cs us us.length = cs := fun h hj => by rw [compT_lead (by omega) fun i hi => h i (by omega)]; exact List.take_of_length_le (by omega)
 refine keep_walk [(0, .arr id 0 us.length us.length 1), (1, .fn (.func 49) [])] Tryz.func48 rfl rfl rfl fun g hg => ?_
 show Wc En _ (Tryz.f48.body.getD .skip) [] (Sx 66 _ _ _ _ _ _)
 unfold Tryz.f48
 simp only [Option.getD_some]
 refine wc_seq (wc_reg fun K hK => ?_)
 refine x_assign rfl rfl rfl ?_
 refine x_nil (hK _ (go_seq (wc_seq (wc_seq (wc_reg fun K hK => ?_)))))
 refine x_move rfl rfl rfl ?_
 refine x_lenA rfl rfl rfl und83 ?_
 refine x_bin rfl rfl rfl rfl rfl ?_
 refine x_nil (hK _ (go_seq ?_))
 refine xc_cond _ rfl (fun hc0 => ?_) (fun hc0 => ?_)
 ·have h1 : compT cs us us.length = cs := hnone (j := 1) (fun i hi => Or.inl (by omega)) (by simp at hc0; omega)
  refine wc_seq (wc_reg fun K hK => ?_)
  refine x_move rfl rfl rfl ?_
  refine x_assign rfl rfl rfl ?_
  refine x_nil (hK _ (go_seq (wc_ret (go_seq_ret ?_))))
  exact x_endK (Or.inr rfl) rfl rfl rfl (upd_same hg hid hwo hwt (by rw [h1, hcl, Nat.sub_self]; simp)) (by rw [h1, hcl])
 ·refine wc_skip (go_seq (wc_seq (wc_seq (wc_reg fun K hK => ?_))))
  refine x_assign rfl rfl rfl ?_
  refine x_nil (hK _ (go_seq (wc_block ?_)))
  refine xc_loop [(0, _), (1, _)] [] (fun k : Nat => [(5, .p (.int .i64 k))]) (fun k : Nat => 1 ≤ k ∧ k ≤ us.length ∧ ∀ i, i < k → keepAt us i) (fun k : Nat => us.length - k) 1 (by repeat first | exact trivial | refine .intro rfl ?_) (by repeat first | exact trivial | refine .intro rfl ?_) ⟨Nat.le_refl _, by simp at hc0; omega, fun i hi => Or.inl (by omega)⟩ ?_
  rintro k R0 hR1_0 hR2_0 ⟨hk1, hk2, hkp⟩ b rb
  refine wc_seq (wc_seq (wc_reg fun K hK => ?_))
  refine x_move rfl rfl rfl ?_
  refine x_move rfl rfl rfl ?_
  refine x_lenA rfl rfl rfl und83 ?_
  refine x_bin rfl rfl rfl rfl rfl ?_
  refine x_nil (hK _ (go_seq ?_))
  refine xc_cond _ rfl (fun hc1 => ?_) (fun hc1 => ?_)
  ·have hlt : k < us.length := by simpa using hc1
   obtain ⟨q1, e1⟩ := hcu.at_ hlt
   obtain ⟨q0, e0⟩ := hcu.at_ (i := k - 1) (by omega)
   have e1 : cs[0 + ((k : Nat) : Int).toNat * 1]? = _ := (by simpa using e1 : cs[0 + ((k : Nat) : Int).toNat * 1]? = some (.sl ((us.getD k []).map fun a => [V.p (.int .i64 a)]) q1))
   have e0 : cs[0 + (((k : Nat) : Int) - 1).toNat * 1]? = _ := (by rw [show 0 + (((k : Nat) : Int) - 1).toNat * 1 = k - 1 by omega]; exact e0 : cs[0 + (((k : Nat) : Int) - 1).toNat * 1]? = some (.sl ((us.getD (k - 1) []).map fun a => [V.p (.int .i64 a)]) q0))
   refine wc_skip (go_seq (wc_seq (wc_block (wc_seq ?_))))
   refine xc_drw [0, 1, 2, 3, 4, 5, 6, 7, 8, 9, 10] mixed (by kernel_rfl) fun K hK => ?_
   refine x_move rfl rfl rfl ?_
   refine x_move rfl rfl rfl ?_
   refine x_move rfl rfl rfl ?_
   refine x_iaA rfl rfl rfl rfl und83 sz27 rfl (by omega) (by omega) ?_
   refine x_ldO rfl rfl rfl isag27 (by rw [hg]; exact hid) e1 ?_
   refine x_move rfl rfl rfl ?_
   refine x_move rfl rfl rfl ?_
   refine x_sub rfl rfl rfl rfl (by omega) (by omega) ?_
   refine x_iaA rfl rfl rfl rfl und83 sz27 rfl (by omega) (by omega) ?_
   refine x_ldO rfl rfl rfl isag27 (by rw [hg]; exact hid) e0 ?_
   refine x_callD rfl rfl rfl rfl (by repeat (first | exact ho_nil | refine ho_cons (by first | rfl | exact rd_ho (by assumption)) ?_)) okf49 (equalI_ok (Rd.sl (f := eInt) (us.getD k []) q1) (Rd.sl (f := eInt) (us.getD (k - 1) []) q0) (hgl k) _) ?_
   refine x_nil (hK _ (go_seq ?_))
   refine xc_cond _ rfl (fun hc2 => ?_) (fun hc2 => ?_)
   ·have heq : us.getD k [] = us.getD (k - 1) [] := by simpa using hc2
    have hno : ¬ keepAt us k := by rintro (h | h); (omega); exact h heq
    have hx1 : compX cs us (k + 1) = cs := by rw [compX_no hno]; exact compX_start (by omega) hkp
    have hl1 : (compT cs us (k + 1)).length = k := by rw [compT_no hno, compT_lead (by omega) hkp, List.length_take]; omega
    refine wc_seq (wc_reg fun K hK => ?_)
    refine x_move rfl rfl rfl ?_
    refine x_move rfl rfl rfl ?_
    refine x_slA (l' := k) (h' := us.length) rfl rfl rfl (Or.inl rfl) (Or.inr ⟨rfl, rfl⟩) und83 sz27 (by omega) (Nat.le_refl _) ?_
    refine x_assign rfl rfl rfl ?_
    refine x_nil (hK _ (go_seq (wc_seq (wc_seq (wc_reg fun K hK => ?_)))))
    refine x_assign rfl rfl rfl ?_
    refine x_nil (hK _ (go_seq (wc_block ?_)))
    rw [show V.p (.int .i64 ((k : Nat) : Int)) = V.p (.int .i64 ((compT cs us (k + 1)).length : Nat)) from by rw [hl1]]
    refine xc_loopG [(0, _), (1, _), (6, _)] [] (fun x : Nat × Nat => [(5, .p (.int .i64 (compT cs us (k + x.1)).length)), (7, .p (.int .i64 x.1))]) (fun x : Nat × Nat => []) (fun x : Nat × Nat => g0.at' id (.cells (compX cs us (k + x.1))) x.2) (fun x : Nat × Nat => 1 ≤ x.1 ∧ x.1 ≤ us.length - k ∧ g0.wo ≤ x.2 ∧ (compT cs us (k + x.1)).length < k + x.1) (fun x : Nat × Nat => us.length - k - x.1) (1, g0.objs.length) (by repeat first | exact trivial | refine .intro rfl ?_) (by repeat first | exact trivial | refine .intro rfl ?_) (by rw [hg]; show g0.at' id (.cells (compX cs us (k + 1))) _ = _; rw [hx1]; exact at_start hid) ⟨Nat.le_refl _, by show 1 ≤ us.length - k; omega, by show g0.wo ≤ g0.objs.length; omega, by show (compT cs us (k + 1)).length < k + 1; omega⟩ ?_
    rintro ⟨k2, w⟩ R1 hR1_1 hR2_1 ⟨hb1, hb2, hw, hcl2⟩ b rb
    dsimp only at hb1 hb2 hw hcl2 ⊢
    refine wc_seq (wc_seq (wc_reg fun K hK => ?_))
    refine x_move rfl rfl rfl ?_
    refine x_move rfl rfl rfl ?_
    refine x_lenA rfl rfl rfl und83 ?_
    refine x_bin rfl rfl rfl rfl rfl ?_
    refine x_nil (hK _ (go_seq ?_))
    refine xc_cond _ rfl (fun hc3 => ?_) (fun hc3 => ?_)
    ·have hlt2 : k + k2 < us.length := by simp at hc3; omega
     obtain ⟨q3, e3⟩ := hcu.at_ hlt2
     obtain ⟨q2, e2⟩ := hcu.at_ (i := k + k2 - 1) (by omega)
     have f3 : (compX cs us (k + k2))[0 + k * 1 + ((k2 : Nat) : Int).toNat * 1]? = some (.sl ((us.getD (k + k2) []).map fun a => [V.p (.int .i64 a)]) q3) := by
      rw [show 0 + k * 1 + ((k2 : Nat) : Int).toNat * 1 = k + k2 by omega, compX_at (by omega)]; exact e3
     have f2 : (compX cs us (k + k2))[0 + k * 1 + (((k2 : Nat) : Int) - 1).toNat * 1]? = some (.sl ((us.getD (k + k2 - 1) []).map fun a => [V.p (.int .i64 a)]) q2) := by
      rw [show 0 + k * 1 + (((k2 : Nat) : Int) - 1).toNat * 1 = k + k2 - 1 by omega, compX_at (by omega)]; exact e2
     refine wc_skip (go_seq (wc_seq (wc_block (wc_seq ?_))))
     refine xc_drw [0, 1, 2, 3, 4, 5, 6, 7, 8, 9, 10, 11] mixed (by kernel_rfl) fun K hK => ?_
     refine x_move rfl rfl rfl ?_
     refine x_move rfl rfl rfl ?_
     refine x_move rfl rfl rfl ?_
     refine x_iaA rfl rfl rfl rfl und83 sz27 rfl (by omega) (by omega) ?_
     refine x_ldO rfl rfl rfl isag27 (at_obj hid) f3 ?_
     refine x_move rfl rfl rfl ?_
     refine x_move rfl rfl rfl ?_
     refine x_sub rfl rfl rfl rfl (by omega) (by omega) ?_
     refine x_iaA rfl rfl rfl rfl und83 sz27 rfl (by omega) (by omega) ?_
     refine x_ldO rfl rfl rfl isag27 (at_obj hid) f2 ?_
     refine x_callD rfl rfl rfl rfl (by repeat (first | exact ho_nil | refine ho_cons (by first | rfl | exact rd_ho (by assumption)) ?_)) okf49 (equalI_ok (Rd.sl (f := eInt) (us.getD (k + k2) []) q3) (Rd.sl (f := eInt) (us.getD (k + k2 - 1) []) q2) (hgl (k + k2)) _) ?_
     refine x_not rfl rfl rfl ?_
     refine x_nil (hK _ (go_seq ?_))
     refine xc_cond _ rfl (fun hc4 => ?_) (fun hc4 => ?_)
     ·have hkp2 : keepAt us (k + k2) := Or.inr (by simpa using hc4)
      have hl2 : (compT cs us (k + (k2 + 1))).length = (compT cs us (k + k2)).length + 1 := by rw [show k + (k2 + 1) = k + k2 + 1 from rfl, compT_yes hkp2]; simp
      refine wc_seq (wc_reg fun K hK => ?_)
      refine x_move rfl rfl rfl ?_
      refine x_move rfl rfl rfl ?_
      refine x_move rfl rfl rfl ?_
      refine x_move rfl rfl rfl ?_
      refine x_iaA rfl rfl rfl rfl und83 sz27 rfl (by omega) (by omega) ?_
      refine x_ldO rfl rfl rfl isag27 (at_obj hid) f3 ?_
      refine x_iaA rfl rfl rfl rfl und83 sz27 rfl (by omega) (by omega) ?_
      refine x_stO rfl rfl rfl sz27 rfl rfl (at_obj hid) (by rw [compX_len (by omega)]; omega) ?_
      refine x_nil (hK _ (go_seq (wc_reg fun K hK => ?_)))
      refine x_move rfl rfl rfl ?_
      refine x_inc rfl rfl rfl rfl (by omega) ?_
      refine x_assign rfl rfl rfl ?_
      refine x_nil (hK _ (go_blk (go_seq (wc_reg fun K hK => ?_))))
      refine x_move rfl rfl rfl ?_
      refine x_inc rfl rfl rfl rfl (by omega) ?_
      refine x_assign rfl rfl rfl ?_
      refine x_nil (hK _ ?_); clear hK K
      exact hR1_1 (k2 + 1, min w id) _ _ _ _ _ ⟨by show 1 ≤ k2 + 1; omega, by show k2 + 1 ≤ us.length - k; omega, by show g0.wo ≤ min w id; omega, by show (compT cs us (k + (k2 + 1))).length < k + (k2 + 1); omega⟩ (by show us.length - k - (k2 + 1) < us.length - k - k2; omega) (by repeat (first | exact trivial | refine And.intro rfl ?_ | refine And.intro (by rw [hl2]; rfl) ?_)) (by repeat first | exact trivial | refine .intro rfl ?_) (by rw [at_set]; exact congrArg (fun z => g0.at' id (.cells z) (min w id)) (compX_yes hkp2 e3 (by omega)).symm)
     ·have hkp2 : ¬ keepAt us (k + k2) := by rintro (h | h); (omega); exact h (by simpa using hc4)
      have hl2 : compT cs us (k + (k2 + 1)) = compT cs us (k + k2) := compT_no hkp2
      refine wc_skip (go_blk (go_seq (wc_reg fun K hK => ?_)))
      refine x_move rfl rfl rfl ?_
      refine x_inc rfl rfl rfl rfl (by omega) ?_
      refine x_assign rfl rfl rfl ?_
      refine x_nil (hK _ ?_); clear hK K
      exact hR1_1 (k2 + 1, w) _ _ _ _ _ ⟨by show 1 ≤ k2 + 1; omega, by show k2 + 1 ≤ us.length - k; omega, hw, by show (compT cs us (k + (k2 + 1))).length < k + (k2 + 1); rw [hl2]; omega⟩ (by show us.length - k - (k2 + 1) < us.length - k - k2; omega) (by repeat (first | exact trivial | refine And.intro rfl ?_ | refine And.intro (by rw [hl2]; rfl) ?_)) (by repeat first | exact trivial | refine .intro rfl ?_) (by show g0.at' id (.cells (compX cs us (k + k2 + 1))) w = _; rw [compX_no hkp2])
    ·obtain rfl : k2 = us.length - k := by simp at hc3; omega
     rw [show k + (us.length - k) = us.length by omega] at hcl2 ⊢
     refine wc_exit ?_
     refine go_seq_exit ?_
     refine hR2_1 _ _ (by simp) ?_
     refine go_blk_exit (go_seq (wc_seq (wc_reg fun K hK => ?_)))
     refine x_move rfl rfl rfl ?_
     refine x_move rfl rfl rfl ?_
     refine x_slA (l' := (compT cs us us.length).length) (h' := us.length) rfl rfl rfl (Or.inl rfl) (Or.inr ⟨rfl, rfl⟩) und83 sz27 (by omega) (Nat.le_refl _) ?_
     refine x_clearO rfl rfl el83 zero27 rfl (by omega) (at_obj hid) (by rw [compX_len (by omega)]; omega) ?_
     refine x_nil (hK _ (go_seq (wc_seq (wc_reg fun K hK => ?_))))
     refine x_move rfl rfl rfl ?_
     refine x_move rfl rfl rfl ?_
     refine x_slA (l' := 0) (h' := (compT cs us us.length).length) rfl rfl rfl (Or.inr ⟨rfl, rfl⟩) (Or.inl rfl) und83 sz27 (Nat.zero_le _) (by omega) ?_
     refine x_assign rfl rfl rfl ?_
     refine x_nil (hK _ (go_seq (wc_ret (go_blk_ret (go_seq_ret ?_)))))
     refine hR2_0 _ _ (by simp) ?_
     refine go_blk_ret (go_seq_ret ?_)
     exact x_endK (Or.inr rfl) rfl rfl rfl (by rw [at_set]; exact at_end (by show g0.wo ≤ min w id; omega) hwt (by rw [compX_clear hcl (by omega)])) (by simp)
   ·refine wc_skip (go_blk (go_seq (wc_reg fun K hK => ?_)))
    refine x_move rfl rfl rfl ?_
    refine x_inc rfl rfl rfl rfl (by omega) ?_
    refine x_assign rfl rfl rfl ?_
    refine x_nil (hK _ ?_); clear hK K
    exact hR1_0 (k + 1) _ _ _ _ ⟨by omega, hlt, fun i hi => by rcases Nat.lt_succ_iff_lt_or_eq.1 hi with hi | rfl; (exact hkp i hi); exact Or.inr (by simpa using hc2)⟩ (by omega) (by repeat first | exact trivial | refine .intro rfl ?_) (by repeat first | exact trivial | refine .intro rfl ?_)
  ·have h1 : compT cs us us.length = cs := hnone hkp (by simp at hc1; omega)
   refine wc_exit ?_
   refine go_seq_exit ?_
   refine hR2_0 _ _ (by simp) ?_
   refine go_blk_exit (go_seq (wc_seq (wc_reg fun K hK => ?_)))
   refine x_move rfl rfl rfl ?_
   refine x_assign rfl rfl rfl ?_
   refine x_nil (hK _ (go_seq (wc_ret ?_)))
   exact x_endK (Or.inr rfl) rfl rfl rfl (upd_same hg hid hwo hwt (by rw [h1, hcl, Nat.sub_self]; simp)) (by rw [h1, hcl])
end Go.Vm
set_option linter.unusedVariables false
namespace Go.Vm
open Go Go.Proofs
def eqL {α : Type} (e : α → α → Bool) : List α → List α → Bool
 | [], [] => true
 | a :: l, c :: m => e a c && eqL e l m
 | _, _ => false
theorem eqL_len {α : Type} {e : α → α → Bool} : ∀ {l m : List α}, eqL e l m = true → l.length = m.length
 | [], [], _ => rfl
 | a :: l, c :: m, h => by
  unfold eqL at h
  rw [Bool.and_eq_true] at h
  simp [eqL_len h.2]
 | [], _ :: _, h => by cases h
 | _ :: _, [], h => by cases h
theorem eqL_refl {α : Type} {e : α → α → Bool} (h : ∀ a, e a a = true) : ∀ l : List α, eqL e l l = true
 | [] => rfl
 | a :: l => by unfold eqL; rw [h a, eqL_refl h l]; rfl
theorem eqL_symm {α : Type} {e : α → α → Bool} (h : ∀ a c, e a c = e c a) : ∀ l m : List α, eqL e l m = eqL e m l
 | [], [] => rfl
 | a :: l, c :: m => by unfold eqL; rw [h a c, eqL_symm h l m]
 | [], _ :: _ => rfl
 | _ :: _, [] => rfl
theorem eqL_trans {α : Type} {e : α → α → Bool} (h : ∀ a c d, e a c = true → e c d = true → e a d = true) : ∀ l m n : List α, eqL e l m = true → eqL e m n = true → eqL e l n = true
 | [], [], [], _, _ => rfl
 | a :: l, c :: m, d :: n, h1, h2 => by
  unfold eqL at h1 h2 ⊢
  rw [Bool.and_eq_true] at h1 h2 ⊢
  exact ⟨h _ _ _ h1.1 h2.1, eqL_trans h l m n h1.2 h2.2⟩
 | [], [], _ :: _, _, h2 => by cases h2
 | [], _ :: _, _, h1, _ => by cases h1
 | _ :: _, [], _, h1, _ => by cases h1
 | _ :: _, _ :: _, [], _, h2 => by cases h2
theorem eqL_step {α : Type} {e : α → α → Bool} {l m : List α} {j : Nat} {a c : α} (h1 : l[j]? = some a) (h2 : m[j]? = some c) : eqL e (l.drop j) (m.drop j) = (e a c && eqL e (l.drop (j + 1)) (m.drop (j + 1))) := by
 have p1 := List.getElem?_eq_some_iff.1 h1
 have p2 := List.getElem?_eq_some_iff.1 h2
 rw [List.drop_eq_getElem_cons p1.1, List.drop_eq_getElem_cons p2.1, p1.2, p2.2]
 rfl
theorem eqL_end {α : Type} {e : α → α → Bool} {l m : List α} {j : Nat} (h1 : l.length ≤ j) (h2 : m.length ≤ j) : eqL e (l.drop j) (m.drop j) = true := by
 rw [List.drop_eq_nil_of_le h1, List.drop_eq_nil_of_le h2]; rfl
theorem eqL_ne {α : Type} {e : α → α → Bool} {l m : List α} (h : l.length ≠ m.length) : eqL e l m = false := by
 cases he : eqL e l m with
 | false => rfl
 | true => exact absurd (eqL_len he) h
def headE (h k : Head) : Bool := decide (h.kind = k.kind) && (h.op == k.op) && decide (h.names.l = k.names.l) && decide (h.kids.l = k.kids.l)
def stateE (s t : StateP) : Bool := (s.plus == t.plus) && decide (s.vars.l = t.vars.l) && eqL headE s.heads.l t.heads.l
def autoE (x y : Sl StateP × Int) : Bool := decide (x.2 = y.2) && eqL stateE x.1.l y.1.l
theorem headE_refl (h : Head) : headE h h = true := by simp [headE]
theorem headE_symm (h k : Head) : headE h k = headE k h := by
 unfold headE
 have e1 : decide (h.kind = k.kind) = decide (k.kind = h.kind) := decide_eq_decide.2 ⟨Eq.symm, Eq.symm⟩
 have e2 : decide (h.names.l = k.names.l) = decide (k.names.l = h.names.l) := decide_eq_decide.2 ⟨Eq.symm, Eq.symm⟩
 have e3 : decide (h.kids.l = k.kids.l) = decide (k.kids.l = h.kids.l) := decide_eq_decide.2 ⟨Eq.symm, Eq.symm⟩
 rw [e1, e2, e3, Bool.beq_comm]
theorem headE_trans (h k l : Head) (h1 : headE h k = true) (h2 : headE k l = true) : headE h l = true := by
 simp only [headE, Bool.and_eq_true, decide_eq_true_eq, beq_iff_eq] at *
 obtain ⟨⟨⟨a1, a2⟩, a3⟩, a4⟩ := h1
 obtain ⟨⟨⟨b1, b2⟩, b3⟩, b4⟩ := h2
 exact ⟨⟨⟨a1.trans b1, a2.trans b2⟩, a3.trans b3⟩, a4.trans b4⟩
theorem stateE_refl (s : StateP) : stateE s s = true := by simp [stateE, eqL_refl headE_refl]
theorem stateE_symm (s t : StateP) : stateE s t = stateE t s := by
 unfold stateE
 have e2 : decide (s.vars.l = t.vars.l) = decide (t.vars.l = s.vars.l) := decide_eq_decide.2 ⟨Eq.symm, Eq.symm⟩
 rw [e2, eqL_symm headE_symm, Bool.beq_comm]
theorem stateE_trans (s t u : StateP) (h1 : stateE s t = true) (h2 : stateE t u = true) : stateE s u = true := by
 simp only [stateE, Bool.and_eq_true, decide_eq_true_eq, beq_iff_eq] at *
 exact ⟨⟨h1.1.1.trans h2.1.1, h1.1.2.trans h2.1.2⟩, eqL_trans headE_trans _ _ _ h1.2 h2.2⟩
theorem autoE_refl (x : Sl StateP × Int) : autoE x x = true := by simp [autoE, eqL_refl stateE_refl]
theorem autoE_symm (x y : Sl StateP × Int) : autoE x y = autoE y x := by
 unfold autoE
 have e2 : decide (x.2 = y.2) = decide (y.2 = x.2) := decide_eq_decide.2 ⟨Eq.symm, Eq.symm⟩
 rw [e2, eqL_symm stateE_symm]
theorem autoE_trans (x y z : Sl StateP × Int) (h1 : autoE x y = true) (h2 : autoE y z = true) : autoE x z = true := by
 simp only [autoE, Bool.and_eq_true, decide_eq_true_eq] at *
 exact ⟨h1.1.trans h2.1, eqL_trans stateE_trans _ _ _ h1.2 h2.2⟩
structure Head.lt (h : Head) : Prop where
 names : h.names.l.length < 2 ^ 60
 kids : h.kids.l.length < 2 ^ 60
structure StateP.lt (s : StateP) : Prop where
 vars : s.vars.l.length < 2 ^ 60
 heads : s.heads.l.length < 2 ^ 60
 each : ∀ h, h ∈ s.heads.l → h.lt
end Go.Vm
set_option linter.unusedVariables false
namespace Go.Vm
open Go Go.Proofs
attribute [local irreducible] wpL
set_option maxRecDepth 20000 in
theorem headE_ok (h k : Head) (hh : h.lt) : Pure En 77 [.agg (h.enc.map .p), .agg (k.enc.map .p)] (.p (.bool (headE h k))) := by
 refine pure_walk [(0, .agg (h.enc.map .p)), (1, .agg (k.enc.map .p))] Tryz.func77 rfl rfl rfl fun g hwo hwt => ?_
 show Wc En _ (Tryz.f77.body.getD .skip) [] (Sx 31 _ _ _ _ _ _)
 unfold Tryz.f77
 simp only [Option.getD_some]
 refine wc_seq (wc_reg fun K hK => ?_)
 refine x_box rfl rfl rfl rfl rfl ?_
 refine x_box rfl rfl rfl rfl rfl ?_
 refine x_assign rfl rfl rfl ?_
 refine x_nil (hK _ ?_); clear hK K
 refine go_seq (wc_seq (wc_reg fun K hK => ?_))
 refine x_fa rfl rfl rfl fld37_0 rfl ?_
 refine x_ldL rfl rfl rfl isag3 rfl rfl ?_
 refine x_fa rfl rfl rfl fld37_0 rfl ?_
 refine x_ldL rfl rfl rfl isag3 rfl rfl ?_
 refine x_bin rfl rfl rfl rfl rfl ?_
 refine x_moveS rfl rfl rfl (fun hg10 => ?_) (fun hg10 => ?_)
 ·refine x_fa rfl rfl rfl fld37_3 rfl ?_
  refine x_ldL rfl rfl rfl isag4 rfl rfl ?_
  refine x_fa rfl rfl rfl fld37_3 rfl ?_
  refine x_ldL rfl rfl rfl isag4 rfl rfl ?_
  refine x_bin rfl rfl rfl rfl rfl ?_
  refine x_pickT rfl rfl rfl rfl ?_
  refine x_moveS rfl rfl rfl (fun hg17 => ?_) (fun hg17 => ?_)
  ·refine x_fa rfl rfl rfl fld37_1 rfl ?_
   refine x_ldL rfl rfl rfl isag35 rfl rfl ?_
   refine x_fa rfl rfl rfl fld37_1 rfl ?_
   refine x_ldL rfl rfl rfl isag35 rfl rfl ?_
   refine x_call rfl rfl rfl (by repeat (first | exact ho_nil | refine ho_cons (by first | rfl | exact rd_ho (by assumption)) ?_)) okf78 (equalS_ok Rd.enc Rd.enc hh.names _) ?_
   refine x_pickT rfl rfl rfl rfl ?_
   refine x_moveS rfl rfl rfl (fun hg24 => ?_) (fun hg24 => ?_)
   ·refine x_fa rfl rfl rfl fld37_2 rfl ?_
    refine x_ldL rfl rfl rfl isag27 rfl rfl ?_
    refine x_fa rfl rfl rfl fld37_2 rfl ?_
    refine x_ldL rfl rfl rfl isag27 rfl rfl ?_
    refine x_call rfl rfl rfl (by repeat (first | exact ho_nil | refine ho_cons (by first | rfl | exact rd_ho (by assumption)) ?_)) okf49 (equalI_ok Rd.enc Rd.enc hh.kids _) ?_
    refine x_pickT rfl rfl rfl rfl ?_
    refine x_assign rfl rfl rfl ?_
    refine x_nil (hK _ ?_); clear hK K
    refine go_seq (wc_ret ?_)
    exact x_end1 (Or.inr rfl) rfl rfl rfl rfl rfl rfl (by congr 2; simp_all [headE])
   ·refine x_skip rfl rfl ?_
    refine x_skip rfl rfl ?_
    refine x_skip rfl rfl ?_
    refine x_skip rfl rfl ?_
    refine x_skip rfl rfl ?_
    refine x_pickF rfl rfl rfl rfl ?_
    refine x_assign rfl rfl rfl ?_
    refine x_nil (hK _ ?_); clear hK K
    refine go_seq (wc_ret ?_)
    exact x_end1 (Or.inr rfl) rfl rfl rfl rfl rfl rfl (by congr 2; simp_all [headE])
  ·refine x_skip rfl rfl ?_
   refine x_skip rfl rfl ?_
   refine x_skip rfl rfl ?_
   refine x_skip rfl rfl ?_
   refine x_skip rfl rfl ?_
   refine x_pickF rfl rfl rfl rfl ?_
   refine x_move rfl rfl rfl ?_
   refine x_skip rfl rfl ?_
   refine x_skip rfl rfl ?_
   refine x_skip rfl rfl ?_
   refine x_skip rfl rfl ?_
   refine x_skip rfl rfl ?_
   refine x_pickF rfl rfl rfl rfl ?_
   refine x_assign rfl rfl rfl ?_
   refine x_nil (hK _ ?_); clear hK K
   refine go_seq (wc_ret ?_)
   exact x_end1 (Or.inr rfl) rfl rfl rfl rfl rfl rfl (by congr 2; simp_all [headE])
 ·refine x_skip rfl rfl ?_
  refine x_skip rfl rfl ?_
  refine x_skip rfl rfl ?_
  refine x_skip rfl rfl ?_
  refine x_skip rfl rfl ?_
  refine x_pickF rfl rfl rfl rfl ?_
  refine x_move rfl rfl rfl ?_
  refine x_skip rfl rfl ?_
  refine x_skip rfl rfl ?_
  refine x_skip rfl rfl ?_
  refine x_skip rfl rfl ?_
  refine x_skip rfl rfl ?_
  refine x_pickF rfl rfl rfl rfl ?_
  refine x_move rfl rfl rfl ?_
  refine x_skip rfl rfl ?_
  refine x_skip rfl rfl ?_
  refine x_skip rfl rfl ?_
  refine x_skip rfl rfl ?_
  refine x_skip rfl rfl ?_
  refine x_pickF rfl rfl rfl rfl ?_
  refine x_assign rfl rfl rfl ?_
  refine x_nil (hK _ ?_); clear hK K
  refine go_seq (wc_ret ?_)
  exact x_end1 (Or.inr rfl) rfl rfl rfl rfl rfl rfl (by congr 2; simp_all [headE])
set_option maxRecDepth 20000 in
theorem headsE_ok (L M : Sl Head) (hL : L.l.length < 2 ^ 60) (hs : ∀ s, s ∈ L.l → s.lt) : Pure En 76 [.p (L.enc Head.enc), .p (M.enc Head.enc), .fn (.func 77) []] (.p (.bool (eqL headE L.l M.l))) := by
 refine pure_walk [(0, .p (L.enc Head.enc)), (1, .p (M.enc Head.enc)), (2, .fn (.func 77) [])] Tryz.func76 rfl rfl rfl fun g hwo hwt => ?_
 show Wc En _ (Tryz.f76.body.getD .skip) [] (Sx 32 _ _ _ _ _ _)
 unfold Tryz.f76
 simp only [Option.getD_some]
 refine wc_seq (wc_reg fun K hK => ?_)
 refine x_assign rfl rfl rfl ?_
 refine x_nil (hK _ ?_); clear hK K
 refine go_seq (wc_seq (wc_seq (wc_reg fun K hK => ?_)))
 refine x_move rfl rfl rfl ?_
 refine x_len rfl rfl rfl (by first | assumption | exact Rd.enc) und32 ?_
 refine x_move rfl rfl rfl ?_
 refine x_len rfl rfl rfl (by first | assumption | exact Rd.enc) und32 ?_
 refine x_bin rfl rfl rfl rfl rfl ?_
 refine x_nil (hK _ ?_); clear hK K
 refine go_seq ?_
 refine xc_cond _ rfl (fun hc0 => ?_) (fun hc0 => ?_)
 ·refine wc_seq (wc_reg fun K hK => ?_)
  refine x_assign rfl rfl rfl ?_
  refine x_nil (hK _ ?_); clear hK K
  refine go_seq (wc_ret (go_seq_ret ?_))
  exact x_end1 (Or.inr rfl) rfl rfl rfl rfl rfl rfl (by rw [eqL_ne (by simp at hc0; omega)])
 ·refine wc_skip (go_seq (wc_seq (wc_seq (wc_reg fun K hK => ?_))))
  refine x_move rfl rfl rfl ?_
  refine x_len rfl rfl rfl (by first | assumption | exact Rd.enc) und32 ?_
  refine x_move rfl rfl rfl ?_
  refine x_nil (hK _ ?_); clear hK K
  refine go_seq (wc_block ?_)
  refine xc_loop [(1, _), (2, _), (15, _), (16, _)] [] (fun j : Nat => [(17, .p (.int .i64 j))]) (fun j : Nat => j ≤ L.l.length ∧ L.l.length = M.l.length ∧ eqL headE (L.l.drop j) (M.l.drop j) = eqL headE L.l M.l) (fun j : Nat => L.l.length - j) 0 (by repeat first | exact trivial | refine .intro rfl ?_) (by repeat first | exact trivial | refine .intro rfl ?_) ⟨Nat.zero_le _, by simp at hc0; omega, rfl⟩ ?_
  rintro j R0 hR1_0 hR2_0 ⟨hj, hl, he⟩ b rb
  refine wc_seq (wc_reg fun K hK => ?_)
  refine x_bin rfl rfl rfl rfl rfl ?_
  refine x_nil (hK _ ?_); clear hK K
  refine go_seq (wc_seq ?_)
  refine xc_cond _ rfl (fun hc1 => ?_) (fun hc1 => ?_)
  ·have hlt : j < L.l.length := by simpa using hc1
   obtain ⟨s, e1⟩ : ∃ s, L.l[j]? = some s := ⟨_, List.getElem?_eq_getElem hlt⟩
   obtain ⟨t, e2⟩ : ∃ t, M.l[j]? = some t := ⟨_, List.getElem?_eq_getElem (by omega)⟩
   have hst := eqL_step (e := headE) e1 e2
   refine wc_skip (go_seq (wc_seq (wc_block (wc_seq (wc_reg fun K hK => ?_)))))
   refine x_move rfl rfl rfl ?_
   refine x_ia rfl rfl rfl (by first | assumption | exact Rd.enc) rfl und32 sz37 rfl (by assumption) rfl ?_
   refine x_ldRA rfl rfl rfl isag37 sz37 rfl ?_
   refine x_alloc rfl rfl rfl zero37 rfl ?_
   refine x_assign rfl rfl rfl ?_
   refine x_stL rfl rfl rfl sz37 rfl rfl rfl rfl ?_
   refine x_nil (hK _ ?_); clear hK K
   refine go_seq (wc_seq (wc_reg fun K hK => ?_))
   refine x_move rfl rfl rfl ?_
   refine x_move rfl rfl rfl ?_
   refine x_ia rfl rfl rfl (by first | assumption | exact Rd.enc) rfl und32 sz37 rfl (by assumption) rfl ?_
   refine x_ldRA rfl rfl rfl isag37 sz37 rfl ?_
   refine x_alloc rfl rfl rfl zero37 rfl ?_
   refine x_stL rfl rfl rfl sz37 rfl rfl rfl rfl ?_
   refine x_nil (hK _ ?_); clear hK K
   refine go_seq (wc_seq (wc_reg fun K hK => ?_))
   refine x_move rfl rfl rfl ?_
   refine x_ldLA rfl rfl rfl isag37 sz37 rfl rfl ?_
   refine x_ldLA rfl rfl rfl isag37 sz37 rfl rfl ?_
   refine x_callD rfl rfl rfl rfl (by repeat (first | exact ho_nil | refine ho_cons (by first | rfl | exact rd_ho (by assumption)) ?_)) okf77 (headE_ok s t (hs s (List.mem_of_getElem? e1)) _) ?_
   refine x_not rfl rfl rfl ?_
   refine x_nil (hK _ ?_); clear hK K
   refine go_seq ?_
   refine xc_cond _ rfl (fun hc2 => ?_) (fun hc2 => ?_)
   ·refine wc_seq (wc_reg fun K hK => ?_)
    refine x_assign rfl rfl rfl ?_
    refine x_nil (hK _ ?_); clear hK K
    refine go_seq (wc_ret (go_blk_ret (go_seq_ret ?_)))
    refine hR2_0 _ _ (by simp) ?_
    refine go_blk_ret (go_seq_ret ?_)
    exact x_end1 (Or.inr rfl) rfl rfl rfl rfl rfl rfl (by rw [← he, hst]; simp at hc2; simp [hc2])
   ·refine wc_skip (go_blk (go_seq (wc_reg fun K hK => ?_)))
    refine x_inc rfl rfl rfl rfl (by omega) ?_
    refine x_move rfl rfl rfl ?_
    refine x_nil (hK _ ?_); clear hK K
    exact hR1_0 (j + 1) _ _ _ _ ⟨hlt, hl, by rw [← he, hst]; simp at hc2; simp [hc2]⟩ (by omega) (by repeat first | exact trivial | refine .intro rfl ?_) (by repeat first | exact trivial | refine .intro rfl ?_)
  ·refine wc_exit ?_
   refine go_seq_exit ?_
   refine hR2_0 _ _ (by simp) ?_
   refine go_blk_exit (go_seq (wc_seq (wc_reg fun K hK => ?_)))
   refine x_assign rfl rfl rfl ?_
   refine x_nil (hK _ ?_); clear hK K
   refine go_seq (wc_ret ?_)
   exact x_end1 (Or.inr rfl) rfl rfl rfl rfl rfl rfl (by rw [← he, eqL_end (by simp at hc1; omega) (by simp at hc1; omega)])
set_option maxRecDepth 20000 in
theorem stateE_ok (s t : StateP) (hs : s.lt) : Pure En 75 [.agg (s.enc.map .p), .agg (t.enc.map .p)] (.p (.bool (stateE s t))) := by
 refine pure_walk [(0, .agg (s.enc.map .p)), (1, .agg (t.enc.map .p))] Tryz.func75 rfl rfl rfl fun g hwo hwt => ?_
 show Wc En _ (Tryz.f75.body.getD .skip) [] (Sx 24 _ _ _ _ _ _)
 unfold Tryz.f75
 simp only [Option.getD_some]
 refine wc_seq (wc_reg fun K hK => ?_)
 refine x_box rfl rfl rfl rfl rfl ?_
 refine x_box rfl rfl rfl rfl rfl ?_
 refine x_assign rfl rfl rfl ?_
 refine x_nil (hK _ ?_); clear hK K
 refine go_seq (wc_seq (wc_reg fun K hK => ?_))
 refine x_fa rfl rfl rfl fld34_0 rfl ?_
 refine x_ldL rfl rfl rfl isag4 rfl rfl ?_
 refine x_fa rfl rfl rfl fld34_0 rfl ?_
 refine x_ldL rfl rfl rfl isag4 rfl rfl ?_
 refine x_bin rfl rfl rfl rfl rfl ?_
 refine x_moveS rfl rfl rfl (fun hg10 => ?_) (fun hg10 => ?_)
 ·refine x_fa rfl rfl rfl fld34_2 rfl ?_
  refine x_ldL rfl rfl rfl isag27 rfl rfl ?_
  refine x_fa rfl rfl rfl fld34_2 rfl ?_
  refine x_ldL rfl rfl rfl isag27 rfl rfl ?_
  refine x_call rfl rfl rfl (by repeat (first | exact ho_nil | refine ho_cons (by first | rfl | exact rd_ho (by assumption)) ?_)) okf49 (equalI_ok Rd.enc Rd.enc hs.vars _) ?_
  refine x_pickT rfl rfl rfl rfl ?_
  refine x_moveS rfl rfl rfl (fun hg17 => ?_) (fun hg17 => ?_)
  ·refine x_fa rfl rfl rfl fld34_1 rfl ?_
   refine x_ldL rfl rfl rfl isag32 rfl rfl ?_
   refine x_fa rfl rfl rfl fld34_1 rfl ?_
   refine x_ldL rfl rfl rfl isag32 rfl rfl ?_
   refine x_call rfl rfl rfl (by repeat (first | exact ho_nil | refine ho_cons (by first | rfl | exact rd_ho (by assumption)) ?_)) okf76 (headsE_ok s.heads t.heads hs.heads hs.each _) ?_
   refine x_pickT rfl rfl rfl rfl ?_
   refine x_assign rfl rfl rfl ?_
   refine x_nil (hK _ ?_); clear hK K
   refine go_seq (wc_ret ?_)
   exact x_end1 (Or.inr rfl) rfl rfl rfl rfl rfl rfl (by congr 2; simp_all [stateE])
  ·refine x_skip rfl rfl ?_
   refine x_skip rfl rfl ?_
   refine x_skip rfl rfl ?_
   refine x_skip rfl rfl ?_
   refine x_skip rfl rfl ?_
   refine x_pickF rfl rfl rfl rfl ?_
   refine x_assign rfl rfl rfl ?_
   refine x_nil (hK _ ?_); clear hK K
   refine go_seq (wc_ret ?_)
   exact x_end1 (Or.inr rfl) rfl rfl rfl rfl rfl rfl (by congr 2; simp_all [stateE])
 ·refine x_skip rfl rfl ?_
  refine x_skip rfl rfl ?_
  refine x_skip rfl rfl ?_
  refine x_skip rfl rfl ?_
  refine x_skip rfl rfl ?_
  refine x_pickF rfl rfl rfl rfl ?_
  refine x_move rfl rfl rfl ?_
  refine x_skip rfl rfl ?_
  refine x_skip rfl rfl ?_
  refine x_skip rfl rfl ?_
  refine x_skip rfl rfl ?_
  refine x_skip rfl rfl ?_
  refine x_pickF rfl rfl rfl rfl ?_
  refine x_assign rfl rfl rfl ?_
  refine x_nil (hK _ ?_); clear hK K
  refine go_seq (wc_ret ?_)
  exact x_end1 (Or.inr rfl) rfl rfl rfl rfl rfl rfl (by congr 2; simp_all [stateE])
set_option maxRecDepth 20000 in
theorem statesE_ok (L M : Sl StateP) (hL : L.l.length < 2 ^ 60) (hs : ∀ s, s ∈ L.l → s.lt) : Pure En 74 [.p (L.enc StateP.enc), .p (M.enc StateP.enc), .fn (.func 75) []] (.p (.bool (eqL stateE L.l M.l))) := by
 refine pure_walk [(0, .p (L.enc StateP.enc)), (1, .p (M.enc StateP.enc)), (2, .fn (.func 75) [])] Tryz.func74 rfl rfl rfl fun g hwo hwt => ?_
 show Wc En _ (Tryz.f74.body.getD .skip) [] (Sx 32 _ _ _ _ _ _)
 unfold Tryz.f74
 simp only [Option.getD_some]
 refine wc_seq (wc_reg fun K hK => ?_)
 refine x_assign rfl rfl rfl ?_
 refine x_nil (hK _ ?_); clear hK K
 refine go_seq (wc_seq (wc_seq (wc_reg fun K hK => ?_)))
 refine x_move rfl rfl rfl ?_
 refine x_len rfl rfl rfl (by first | assumption | exact Rd.enc) und22 ?_
 refine x_move rfl rfl rfl ?_
 refine x_len rfl rfl rfl (by first | assumption | exact Rd.enc) und22 ?_
 refine x_bin rfl rfl rfl rfl rfl ?_
 refine x_nil (hK _ ?_); clear hK K
 refine go_seq ?_
 refine xc_cond _ rfl (fun hc0 => ?_) (fun hc0 => ?_)
 ·refine wc_seq (wc_reg fun K hK => ?_)
  refine x_assign rfl rfl rfl ?_
  refine x_nil (hK _ ?_); clear hK K
  refine go_seq (wc_ret (go_seq_ret ?_))
  exact x_end1 (Or.inr rfl) rfl rfl rfl rfl rfl rfl (by rw [eqL_ne (by simp at hc0; omega)])
 ·refine wc_skip (go_seq (wc_seq (wc_seq (wc_reg fun K hK => ?_))))
  refine x_move rfl rfl rfl ?_
  refine x_len rfl rfl rfl (by first | assumption | exact Rd.enc) und22 ?_
  refine x_move rfl rfl rfl ?_
  refine x_nil (hK _ ?_); clear hK K
  refine go_seq (wc_block ?_)
  refine xc_loop [(1, _), (2, _), (15, _), (16, _)] [] (fun j : Nat => [(17, .p (.int .i64 j))]) (fun j : Nat => j ≤ L.l.length ∧ L.l.length = M.l.length ∧ eqL stateE (L.l.drop j) (M.l.drop j) = eqL stateE L.l M.l) (fun j : Nat => L.l.length - j) 0 (by repeat first | exact trivial | refine .intro rfl ?_) (by repeat first | exact trivial | refine .intro rfl ?_) ⟨Nat.zero_le _, by simp at hc0; omega, rfl⟩ ?_
  rintro j R0 hR1_0 hR2_0 ⟨hj, hl, he⟩ b rb
  refine wc_seq (wc_reg fun K hK => ?_)
  refine x_bin rfl rfl rfl rfl rfl ?_
  refine x_nil (hK _ ?_); clear hK K
  refine go_seq (wc_seq ?_)
  refine xc_cond _ rfl (fun hc1 => ?_) (fun hc1 => ?_)
  ·have hlt : j < L.l.length := by simpa using hc1
   obtain ⟨s, e1⟩ : ∃ s, L.l[j]? = some s := ⟨_, List.getElem?_eq_getElem hlt⟩
   obtain ⟨t, e2⟩ : ∃ t, M.l[j]? = some t := ⟨_, List.getElem?_eq_getElem (by omega)⟩
   have hst := eqL_step (e := stateE) e1 e2
   refine wc_skip (go_seq (wc_seq (wc_block (wc_seq (wc_reg fun K hK => ?_)))))
   refine x_move rfl rfl rfl ?_
   refine x_ia rfl rfl rfl (by first | assumption | exact Rd.enc) rfl und22 sz34 rfl (by assumption) rfl ?_
   refine x_ldRA rfl rfl rfl isag34 sz34 rfl ?_
   refine x_alloc rfl rfl rfl zero34 rfl ?_
   refine x_assign rfl rfl rfl ?_
   refine x_stL rfl rfl rfl sz34 rfl rfl rfl rfl ?_
   refine x_nil (hK _ ?_); clear hK K
   refine go_seq (wc_seq (wc_reg fun K hK => ?_))
   refine x_move rfl rfl rfl ?_
   refine x_move rfl rfl rfl ?_
   refine x_ia rfl rfl rfl (by first | assumption | exact Rd.enc) rfl und22 sz34 rfl (by assumption) rfl ?_
   refine x_ldRA rfl rfl rfl isag34 sz34 rfl ?_
   refine x_alloc rfl rfl rfl zero34 rfl ?_
   refine x_stL rfl rfl rfl sz34 rfl rfl rfl rfl ?_
   refine x_nil (hK _ ?_); clear hK K
   refine go_seq (wc_seq (wc_reg fun K hK => ?_))
   refine x_move rfl rfl rfl ?_
   refine x_ldLA rfl rfl rfl isag34 sz34 rfl rfl ?_
   refine x_ldLA rfl rfl rfl isag34 sz34 rfl rfl ?_
   refine x_callD rfl rfl rfl rfl (by repeat (first | exact ho_nil | refine ho_cons (by first | rfl | exact rd_ho (by assumption)) ?_)) okf75 (stateE_ok s t (hs s (List.mem_of_getElem? e1)) _) ?_
   refine x_not rfl rfl rfl ?_
   refine x_nil (hK _ ?_); clear hK K
   refine go_seq ?_
   refine xc_cond _ rfl (fun hc2 => ?_) (fun hc2 => ?_)
   ·refine wc_seq (wc_reg fun K hK => ?_)
    refine x_assign rfl rfl rfl ?_
    refine x_nil (hK _ ?_); clear hK K
    refine go_seq (wc_ret (go_blk_ret (go_seq_ret ?_)))
    refine hR2_0 _ _ (by simp) ?_
    refine go_blk_ret (go_seq_ret ?_)
    exact x_end1 (Or.inr rfl) rfl rfl rfl rfl rfl rfl (by rw [← he, hst]; simp at hc2; simp [hc2])
   ·refine wc_skip (go_blk (go_seq (wc_reg fun K hK => ?_)))
    refine x_inc rfl rfl rfl rfl (by omega) ?_
    refine x_move rfl rfl rfl ?_
    refine x_nil (hK _ ?_); clear hK K
    exact hR1_0 (j + 1) _ _ _ _ ⟨hlt, hl, by rw [← he, hst]; simp at hc2; simp [hc2]⟩ (by omega) (by repeat first | exact trivial | refine .intro rfl ?_) (by repeat first | exact trivial | refine .intro rfl ?_)
  ·refine wc_exit ?_
   refine go_seq_exit ?_
   refine hR2_0 _ _ (by simp) ?_
   refine go_blk_exit (go_seq (wc_seq (wc_reg fun K hK => ?_)))
   refine x_assign rfl rfl rfl ?_
   refine x_nil (hK _ ?_); clear hK K
   refine go_seq (wc_ret ?_)
   exact x_end1 (Or.inr rfl) rfl rfl rfl rfl rfl rfl (by rw [← he, eqL_end (by simp at hc1; omega) (by simp at hc1; omega)])
set_option maxRecDepth 20000 in
theorem same_ok (L M : Sl StateP) (p q : Int) (hL : L.l.length < 2 ^ 60) (hs : ∀ s, s ∈ L.l → s.lt) : Pure En 55 [.agg ((AutoP.enc L p).map .p), .agg ((AutoP.enc M q).map .p)] (.p (.bool (autoE (L, p) (M, q)))) := by
 refine pure_walk [(0, .agg ((AutoP.enc L p).map .p)), (1, .agg ((AutoP.enc M q).map .p))] Tryz.func55 rfl rfl rfl fun g hwo hwt => ?_
 show Wc En _ (Tryz.f55.body.getD .skip) [] (Sx 17 _ _ _ _ _ _)
 unfold Tryz.f55
 simp only [Option.getD_some]
 refine wc_seq (wc_reg fun K hK => ?_)
 refine x_box rfl rfl rfl rfl rfl ?_
 refine x_box rfl rfl rfl rfl rfl ?_
 refine x_assign rfl rfl rfl ?_
 refine x_nil (hK _ ?_); clear hK K
 refine go_seq (wc_seq (wc_reg fun K hK => ?_))
 refine x_fa rfl rfl rfl fld24_1 rfl ?_
 refine x_ldL rfl rfl rfl isag3 rfl rfl ?_
 refine x_fa rfl rfl rfl fld24_1 rfl ?_
 refine x_ldL rfl rfl rfl isag3 rfl rfl ?_
 refine x_bin rfl rfl rfl rfl rfl ?_
 refine x_moveS rfl rfl rfl (fun hg10 => ?_) (fun hg10 => ?_)
 ·refine x_fa rfl rfl rfl fld24_0 rfl ?_
  refine x_ldL rfl rfl rfl isag22 rfl rfl ?_
  refine x_fa rfl rfl rfl fld24_0 rfl ?_
  refine x_ldL rfl rfl rfl isag22 rfl rfl ?_
  refine x_call rfl rfl rfl (by repeat (first | exact ho_nil | refine ho_cons (by first | rfl | exact rd_ho (by assumption)) ?_)) okf74 (statesE_ok L M hL hs _) ?_
  refine x_pickT rfl rfl rfl rfl ?_
  refine x_assign rfl rfl rfl ?_
  refine x_nil (hK _ ?_); clear hK K
  refine go_seq (wc_ret ?_)
  exact x_end1 (Or.inr rfl) rfl rfl rfl rfl rfl rfl (by congr 2; simp_all [autoE])
 ·refine x_skip rfl rfl ?_
  refine x_skip rfl rfl ?_
  refine x_skip rfl rfl ?_
  refine x_skip rfl rfl ?_
  refine x_skip rfl rfl ?_
  refine x_pickF rfl rfl rfl rfl ?_
  refine x_assign rfl rfl rfl ?_
  refine x_nil (hK _ ?_); clear hK K
  refine go_seq (wc_ret ?_)
  exact x_end1 (Or.inr rfl) rfl rfl rfl rfl rfl rfl (by congr 2; simp_all [autoE])
end Go.Vm
set_option linter.unusedVariables false
namespace Go.Vm
open Go
def Opens (P : Program) (w : World) {α : Type} (t : TypeId) (en : α → List PV) (ok : α → Prop) : Prop :=
 ∀ (H : Type) (enc : TypeId × Value → H) (fuel : Nat) (cs : List Value) (x : DataW H × List MemPlace), DataW.trod enc P w 0 (fun _ => true) true fuel t cs = some x →
  (x.1.weights P t).all (· ≤ reachBytes) = true → ∃ a, ok a ∧ cs.length = (en a).length ∧ ∀ (i : Nat) (p : PV) (y : Value), (en a)[i]? = some p → cs[i]? = some y → RepP (Vw.all w).sg p y
section
variable {P : Program} {w : World} {t : TypeId} {α : Type} {en : α → List PV} {ok : α → Prop}
theorem opens_mono {ok' : α → Prop} (h : Opens P w t en ok) (k : ∀ a, ok a → ok' a) : Opens P w t en ok' := by
 intro H enc fuel cs x hx hw
 obtain ⟨a, h1, h2⟩ := h H enc fuel cs x hx hw
 exact ⟨a, k a h1, h2⟩
theorem one_rep {p : PV} {y : Value} (h : RepP (Vw.all w).sg p y) : ∀ (i : Nat) (p' : PV) (y' : Value), [p][i]? = some p' → [y][i]? = some y' → RepP (Vw.all w).sg p' y' := by
 intro i p' y' h1 h2
 cases i with
 | zero => simp at h1 h2; subst h1 h2; exact h
 | succ i => simp at h1
theorem opens_int {k : IntKind} (ht : P.underlying t = some (.int k)) : Opens P w t (fun n : Int => [.int k n]) (fun n => (Lit.int k n).wf = true) := by
 intro H enc fuel cs x hx _
 obtain ⟨n, rfl, _, hw⟩ := DataW.trod_int ht hx
 exact ⟨n, hw, rfl, one_rep .int⟩
theorem opens_bool (ht : P.underlying t = some .bool) : Opens P w t eBool (fun _ => True) := by
 intro H enc fuel cs x hx _
 obtain ⟨n, rfl, _⟩ := DataW.trod_bool ht hx
 exact ⟨n, trivial, rfl, one_rep .bool⟩
theorem opens_string (ht : P.underlying t = some .string) : Opens P w t eStr (fun s => s.size ≤ reachBytes) := by
 intro H enc fuel cs x hx hw
 obtain ⟨s, rfl, rfl, _⟩ := DataW.trod_string ht hx
 refine ⟨s, ?_, rfl, one_rep .str⟩
 simpa [DataW.weights] using hw
theorem list_of {β : Type} {R : Nat → β → Prop} : ∀ n : Nat, (∀ i, i < n → ∃ a, R i a) → ∃ l : List β, l.length = n ∧ ∀ i a, l[i]? = some a → R i a := by
 intro n
 induction n with
 | zero => intro _; exact ⟨[], rfl, fun i a h => by simp at h⟩
 | succ n ih =>
  intro h
  obtain ⟨l, hl, hr⟩ := ih fun i hi => h i (by omega)
  obtain ⟨a, ha⟩ := h n (by omega)
  refine ⟨l ++ [a], by simp [hl], fun i b hb => ?_⟩
  by_cases hi : i < l.length
  ·rw [List.getElem?_append_left hi] at hb; exact hr i b hb
  ·rw [List.getElem?_append_right (by omega)] at hb
   have : i - l.length = 0 := by
    have := (List.getElem?_eq_some_iff.1 hb).1
    simp at this; omega
   rw [this] at hb
   simp at hb
   subst hb
   rw [show i = n by omega]
   exact ha
theorem weightsAll_mem {H : Type} {P : Program} {e : TypeId} {q : Nat → Bool} : ∀ {l : List (DataW H)}, (DataW.weightsAll P e l).all q = true → ∀ d, d ∈ l → (d.weights P e).all q = true := by
 intro l
 induction l with
 | nil => intro _ d hd; cases hd
 | cons a l ih =>
  intro h d hd
  simp only [DataW.weightsAll, List.all_append, Bool.and_eq_true] at h
  rcases List.mem_cons.1 hd with rfl | hd
  ·exact h.1
  ·exact ih h.2 d hd
theorem opens_slice {e : TypeId} {n : Nat} (ht : P.underlying t = some (.slice e)) (he : Opens P w e en ok) (hn : P.cellsOf e = n) (hn0 : 0 < n) (hl : ∀ a, (en a).length = n) (hb : 0 < P.bytesOf e) :
  Opens P w t (fun s : Sl α => [s.enc en]) (fun s => s.l.length ≤ reachBytes ∧ ∀ a, a ∈ s.l → ok a) := by
 intro H enc fuel cs x hx hw
 rcases DataW.trod_slice ht hx with ⟨rfl, rfl⟩ | ⟨a, len, cap, elems, rest, m, rfl, rfl, rfl, _, hlc, _, hlen, hel, _, _⟩
 ·refine ⟨⟨true, [], fun _ => rfl⟩, ⟨Nat.zero_le _, fun a ha => by cases ha⟩, rfl, one_rep ?_⟩
  exact .nilsl
 ·simp only [DataW.weights, ht, List.all_cons, List.all_append, Bool.and_eq_true, decide_eq_true_eq] at hw
  obtain ⟨hw1, hw2, _⟩ := hw
  have hlr : len ≤ reachBytes := by
   have : elems.length * 1 ≤ ((elems.map (·.1)).length + (rest.map (·.1)).length) * P.bytesOf e := Nat.mul_le_mul (by simp) hb
   omega
  have one : ∀ i, i < len → ∃ b : α, ok b ∧ ∃ ys : List Value, w.cells? 0 (a.add (i * n)) n = some ys ∧ ys.length = (en b).length ∧ ∀ (i : Nat) (p : PV) (y : Value), (en b)[i]? = some p → ys[i]? = some y → RepP (Vw.all w).sg p y := by
   intro i hi
   have h1 := hel i hi
   rw [hn] at h1
   have h2 : elems[i]? = some (elems[i]'(by omega)) := List.getElem?_eq_getElem _
   rw [h2, Option.bind_eq_some_iff] at h1
   obtain ⟨ys, h3, h4⟩ := h1
   obtain ⟨b, q1, q2, q3⟩ := he H enc m ys _ h4 (weightsAll_mem hw2 _ (List.mem_map.2 ⟨_, List.getElem_mem (by omega), rfl⟩))
   exact ⟨b, q1, ys, h3, q2, q3⟩
  obtain ⟨l, hll, hR⟩ := list_of len one
  subst hll
  refine ⟨⟨false, l, fun h => by cases h⟩, ⟨hlr, fun b hb => ?_⟩, rfl, one_rep ?_⟩
  ·obtain ⟨i, hi⟩ := List.mem_iff_getElem?.1 hb
   exact (hR i b hi).1
  ·have cellAt : ∀ (i j : Nat) (b : α) (p : PV), l[i]? = some b → (en b)[j]? = some p → ∃ C e fr y, w.heap[a.block]? = some (.cells C e fr) ∧ a.spot = none ∧ C[a.off + (i * n + j)]? = some y ∧ RepP (Vw.all w).sg p y := by
    intro i j b p hi hj
    obtain ⟨_, ys, h1, h2, h3⟩ := hR i b hi
    have hjl : j < (en b).length := (List.getElem?_eq_some_iff.1 hj).1
    have hjn : j < n := by rw [hl] at hjl; exact hjl
    simp only [World.cells?, Nat.zero_le, if_true] at h1
    have h4 := mapM_some_get h1 j j (by rw [List.getElem?_range hjn])
    have h5 : ys[j]? = some (ys[j]'(by omega)) := List.getElem?_eq_getElem _
    rw [h5] at h4
    have hr := h3 j p _ hj h5
    simp only [World.cell?] at h4
    split at h4
    ·rename_i C e fr hh
     split at h4
     ·cases h4
     ·rename_i hs
      have hb1 : ((a.add (i * n)).add j).block = a.block := by
       have e1 : ∀ (z : Addr) (k : Nat), (z.add k).block = z.block := by
        intro z k; unfold Addr.add; split
        ·rename_i h0; subst h0; rfl
        ·rfl
       rw [e1, e1]
      have ho1 : ((a.add (i * n)).add j).off = a.off + (i * n + j) := by
       have e1 : ∀ (z : Addr) (k : Nat), (z.add k).off = z.off + k := by
        intro z k; unfold Addr.add; split
        ·rename_i h0; subst h0; rfl
        ·rfl
       rw [e1, e1]; omega
      rw [hb1] at hh
      rw [ho1] at h4
      refine ⟨C, e, fr, _, hh, ?_, h4, hr⟩
      have hpos : 0 < l.length := Nat.lt_of_le_of_lt (Nat.zero_le i) (List.getElem?_eq_some_iff.1 hi).1
      obtain ⟨_, zs, g1, g2, _⟩ := hR 0 l[0] (by simp [hpos])
      simp only [World.cells?, Nat.zero_le, if_true] at g1
      have g4 := mapM_some_get g1 0 0 (by rw [List.getElem?_range hn0])
      have g5 : zs[0]? = some (zs[0]'(by rw [g2, hl]; exact hn0)) := List.getElem?_eq_getElem _
      rw [g5] at g4
      have : (a.add (0 * n)).add 0 = a := by simp [Addr.add]
      rw [this] at g4
      simp only [World.cell?] at g4
      split at g4
      ·split at g4
       ·cases g4
       ·rename_i hsp
        simpa using hsp
      ·cases g4
    ·cases h4
   show RepP (Vw.all w).sg (.sl (l.map en)) (.slice (some a) l.length cap)
   have hlm : l.length = (l.map en).length := by simp
   by_cases hne : l = []
   ·subst hne
    exact .sl (rows := []) (n := n) (fun _ _ => undef) #[] (fun h => absurd rfl h) hlc (fun r hr => by cases hr) (fun h => absurd rfl h) (fun i j r x hi => by simp at hi) (fun i j r x hi => by simp at hi)
   ·have hpos : 0 < l.length := List.length_pos_iff.2 hne
    have h0 : 0 < (en (l[0]'hpos)).length := by rw [hl]; exact hn0
    obtain ⟨p0, hp0⟩ : ∃ p0, (en (l[0]'hpos))[0]? = some p0 := ⟨_, List.getElem?_eq_getElem h0⟩
    obtain ⟨C, e', fr, _, hC, hsp, _, _⟩ := cellAt 0 0 l[0] p0 (by simp [hpos]) hp0
    rw [hlm]
    refine .sl (rows := l.map en) (n := n) (fun i j => (C[a.off + (i * n + j)]?).getD undef) C (fun _ => hsp) (by rw [← hlm]; exact hlc) (fun r hr => ?_) (fun _ => Vw.all_sg hC) (fun i j r x hi hj => ?_) (fun i j r x hi hj => ?_)
    ·obtain ⟨b, _, rfl⟩ := List.mem_map.1 hr; exact hl b
    ·rw [List.getElem?_map] at hi
     cases hb2 : l[i]? with
     | none => rw [hb2] at hi; cases hi
     | some b =>
      rw [hb2] at hi; cases hi
      obtain ⟨C', e2, fr2, y, q1, _, q3, _⟩ := cellAt i j b x hb2 hj
      rw [hC] at q1; cases q1
      rw [q3]; rfl
    ·rw [List.getElem?_map] at hi
     cases hb2 : l[i]? with
     | none => rw [hb2] at hi; cases hi
     | some b =>
      rw [hb2] at hi; cases hi
      obtain ⟨C', e2, fr2, y, q1, _, q3, q4⟩ := cellAt i j b x hb2 hj
      rw [hC] at q1; cases q1
      rw [q3]; exact q4
theorem weightsEach_at {H : Type} {q : Nat → Bool} : ∀ {ts : List TypeId} {l : List (DataW H)}, (DataW.weightsEach P ts l).all q = true → ∀ (i : Nat) (t : TypeId) (d : DataW H), ts[i]? = some t → l[i]? = some d → (d.weights P t).all q = true := by
 intro ts
 induction ts with
 | nil => intro l _ i t d h; simp at h
 | cons a ts ih =>
  intro l h i t d ht hd
  cases l with
  | nil => simp at hd
  | cons b l =>
   simp only [DataW.weightsEach, List.all_append, Bool.and_eq_true] at h
   cases i with
   | zero => simp at ht hd; subst ht hd; exact h.1
   | succ i => exact ih h.2 i t d (by simpa using ht) (by simpa using hd)
theorem struct_field {fs : Array Field} (ht : P.underlying t = some (.struct fs)) {H : Type} {enc : TypeId × Value → H} {fuel : Nat} {cs : List Value} {x : DataW H × List MemPlace}
  (hx : DataW.trod enc P w 0 (fun _ => true) true fuel t cs = some x) (hw : (x.1.weights P t).all (· ≤ reachBytes) = true) {i : Nat} {f : Field} (hf : fs[i]? = some f) (ho : Opens P w f.type en ok) :
  ∃ a, ok a ∧ ((cs.drop f.offset).take (P.cellsOf f.type)).length = (en a).length ∧ ∀ (j : Nat) (p : PV) (y : Value), (en a)[j]? = some p → ((cs.drop f.offset).take (P.cellsOf f.type))[j]? = some y → RepP (Vw.all w).sg p y := by
 obtain ⟨xs, m, rfl, rfl, _, hl, hel⟩ := DataW.trod_struct ht hx
 have hi : i < xs.length := by rw [hl]; exact (Array.getElem?_eq_some_iff.1 hf).1
 have h1 := hel i f hf
 rw [List.getElem?_eq_getElem hi] at h1
 refine ho H enc m _ _ h1 ?_
 simp only [DataW.weights, ht] at hw
 exact weightsEach_at hw i f.type _ (by rw [List.getElem?_map]; simp [hf]) (by rw [List.getElem?_map, List.getElem?_eq_getElem hi]; rfl)
theorem struct_len {fs : Array Field} (ht : P.underlying t = some (.struct fs)) {H : Type} {enc : TypeId × Value → H} {fuel : Nat} {cs : List Value} {x : DataW H × List MemPlace}
  (hx : DataW.trod enc P w 0 (fun _ => true) true fuel t cs = some x) : cs.length = P.cellsOf t := by
 obtain ⟨xs, m, rfl, rfl, h, _, _⟩ := DataW.trod_struct ht hx
 exact h
end
end Go.Vm
set_option linter.unusedVariables false
namespace Go.Vm
open Go
theorem laid_ref {P : Program} {w : World} {n : String} {g : Nat} {t e : TypeId} {N : Nat} {k : IntKind} {cs : Array Value} {fuel : Nat} {p : List MemPlace} {l : List Int}
  (hg : P.globalNamed n = some g) (hv : w.var? P n = some cs) (ht : P.underlying t = some (.array N e)) (he : P.underlying e = some (.int k)) (hc : P.cellsOf e = 1) (hct : P.cellsOf t = N)
  (h : DataW.trod (fun _ => ()) P w 0 (fun _ => true) false fuel t cs.toList = some (.agg (l.map fun m => .lit (.int k m)), p)) : GlobR (Vw.all w) g (l.map fun m => .p (.int k m)) w := by
 obtain ⟨xs, m1, rfl, hx, hlen, hn, hel⟩ := DataW.trod_array ht h
 simp only [Prod.mk.injEq, DataW.agg.injEq] at hx
 have hheap : ∃ el fr, w.heap[g]? = some (.cells cs el fr) := by
  simp only [World.var?, hg, Option.bind_some] at hv
  split at hv
  ·rename_i c el fr hh; cases hv; exact ⟨el, fr, hh⟩
  ·cases hv
 obtain ⟨el, fr, hh⟩ := hheap
 have cell : ∀ (i : Nat) (m : Int), l[i]? = some m → cs[i]? = some (Value.int k m) := by
  intro i m hm
  have hxi : (xs.map (·.1))[i]? = some (.lit (.int k m)) := by rw [← hx.1, List.getElem?_map, hm]; rfl
  rw [List.getElem?_map, Option.map_eq_some_iff] at hxi
  obtain ⟨x, hx1, hx2⟩ := hxi
  have hi : i < N := by rw [← hn]; exact (List.getElem?_eq_some_iff.1 hx1).1
  have h1 := hel i hi
  rw [hx1, hc, Nat.mul_one] at h1
  obtain ⟨q, h2, rfl, _⟩ := DataW.trod_int he h1
  simp only [DataW.lit.injEq, Lit.int.injEq, true_and] at hx2
  subst hx2
  have h3 : ((cs.toList.drop i).take 1)[0]? = some (.int k q) := by rw [h2]; rfl
  rw [List.getElem?_take, if_pos (by omega), List.getElem?_drop] at h3
  simpa using h3
 have hsz : cs.size = (l.map fun m => V.p (.int k m)).length := by
  have h1 : l.length = N := by have := congrArg List.length hx.1; simp only [List.length_map] at this; rw [this, hn]
  have h2 : cs.toList.length = N := by rw [hlen, hct]
  rw [List.length_map, h1, ← h2, Array.length_toList]
 refine ⟨?_, ⟨cs, el, fr, hh, hsz⟩, cs, Vw.all_sg hh⟩
 refine .ref (l.map fun m => .int k m) cs rfl (fun _ => Vw.all_sg hh) ⟨by simp, fun i x y hx hy => ?_⟩ (fun j y hy => ?_)
 ·rw [List.getElem?_map, Option.map_eq_some_iff] at hx hy
  obtain ⟨a, ha, rfl⟩ := hx
  obtain ⟨b, hb, rfl⟩ := hy
  rw [ha] at hb; cases hb
  exact .p .int
 ·rw [List.getElem?_map, Option.map_eq_some_iff] at hy
  obtain ⟨b, hb, rfl⟩ := hy
  simpa using cell j b hb
theorem at1 {P : Program} {sg : Nat → Option (Array Value)} {cs : List Value} {f : Field} {off : Nat} {pv : PV} (h : ∀ (j : Nat) (p : PV) (y : Value), [pv][j]? = some p → ((cs.drop f.offset).take (P.cellsOf f.type))[j]? = some y → RepP sg p y)
  (ho : f.offset = off) (hc : P.cellsOf f.type = 1) : ∀ y, cs[off]? = some y → RepP sg pv y :=
 fun y hy => h 0 pv y rfl (by rw [List.getElem?_take, if_pos (by omega), List.getElem?_drop, ho]; simpa using hy)
theorem arg_agg {w : World} {xs : List PV} {cs : Array Value} (hl : cs.toList.length = xs.length) (h : ∀ (i : Nat) (p : PV) (y : Value), xs[i]? = some p → cs.toList[i]? = some y → RepP (Vw.all w).sg p y) : RepA (Vw.all w) (.agg (xs.map .p)) (.agg cs) := by
 have : RepL (Vw.all w) (xs.map .p) cs.toList := by
  refine ⟨by rw [List.length_map, hl], fun i x y hx hy => ?_⟩
  rw [List.getElem?_map, Option.map_eq_some_iff] at hx
  obtain ⟨p, hp, rfl⟩ := hx
  exact .p (h i p y hp hy)
 have h2 := RepA.agg this
 simpa using h2
theorem args_two {v : Vw} {x1 x2 : V} {y1 y2 : Value} (h1 : RepA v x1 y1) (h2 : RepA v x2 y2) : RepArgs v [x1, x2] #[y1, y2] :=
 ⟨rfl, fun i a b ha hb => by
  match i with
  | 0 => simp at ha hb; subst ha hb; exact h1
  | 1 => simp at ha hb; subst ha hb; exact h2
  | i + 2 => simp at ha⟩
theorem args_three {v : Vw} {x1 x2 x3 : V} {y1 y2 y3 : Value} (h1 : RepA v x1 y1) (h2 : RepA v x2 y2) (h3 : RepA v x3 y3) : RepArgs v [x1, x2, x3] #[y1, y2, y3] :=
 ⟨rfl, fun i a b ha hb => by
  match i with
  | 0 => simp at ha hb; subst ha hb; exact h1
  | 1 => simp at ha hb; subst ha hb; exact h2
  | 2 => simp at ha hb; subst ha hb; exact h3
  | i + 3 => simp at ha⟩
theorem rep_bool {v : Vw} {b : Bool} {y : Value} (h : RepV v noLc (.p (.bool b)) y) : y = .bool b := by
 cases h with
 | a h => cases h with
  | cell h => cases h with
   | p h => cases h; rfl
end Go.Vm
set_option linter.unusedVariables false
namespace Go.Vm
open Go Go.Proofs
theorem enter_still {E : Env} {f : FuncId} {args : List V} {ys : Array Value} {w : World} {Q : V → G → Prop} (hp : PrimOk E) (W : WR E (Vw.all w) G.none w) (ha : RepArgs (Vw.all w) args ys) (h : Ev E (.call f args G.none Q)) :
  Calls E.P f ys w fun e w' => ∃ r y v' g', e = .returned y ∧ Q r g' ∧ RepV v' noLc r y ∧ ∃ q os', w' = Sort.grow (w.drewN q) os' := by
 refine (sound hp h (Vw.all w) w ys W (Nat.le_refl _) (Nat.le_refl _) ha).mono ?_
 rintro e w' ⟨r, y, v', g', rfl, hq, W', hr, hx, hP⟩
 obtain ⟨gl, S, _⟩ := hP.ex
 refine ⟨r, y, v', g', rfl, hq, hr, w'.drawn - w.drawn, w'.heap.extract w.heap.size w'.heap.size, ?_⟩
 have hheap : w'.heap = w.heap ++ w'.heap.extract w.heap.size w'.heap.size := by
  have hsz := S.size
  apply Array.ext
  ·simp; omega
  ·intro i h1 h2
   by_cases hi : i < w.heap.size
   ·rw [Array.getElem_append_left hi]
    have := S.other i hi (fun i hi => absurd hi (Nat.not_lt_zero _)) (fun k hk => absurd hk (Nat.not_lt_zero _))
    rw [Array.getElem?_eq_getElem h1, Array.getElem?_eq_getElem hi] at this
    simpa using this
   ·rw [Array.getElem_append_right (by omega)]
    simp only [Array.getElem_extract]
    congr 1; omega
 have htape := S.tape.same
 have hmore := S.tape.more
 have hos := S.os
 have hout := S.out
 cases w'
 simp only [Sort.grow, World.drewN] at *
 subst htape hos hout
 rw [← hheap]
 congr 1
 omega
theorem glob_plain : ∀ gid row, En0.glob gid = some row → ∀ x, x ∈ row → ∃ p, x = V.p p := by
 intro gid row h
 have h : lookN globTab gid = some row := h
 have key : ∀ (l : List (Nat × List V)), (l.all fun x => x.2.all fun v => match v with | .p _ => true | _ => false) = true → ∀ row, lookN l gid = some row → ∀ x, x ∈ row → ∃ p, x = V.p p := by
  intro l
  induction l with
  | nil => intro _ row h; cases h
  | cons a l ih =>
   intro ha row h x hx
   simp only [List.all_cons, Bool.and_eq_true] at ha
   obtain ⟨n, y⟩ := a
   unfold lookN at h
   cases hb : Nat.beq n gid with
   | true =>
    rw [hb] at h
    simp only [cond_true, Option.some.injEq] at h
    subst h
    have := List.all_eq_true.1 ha.1 x hx
    cases x with
    | p q => exact ⟨q, rfl⟩
    | _ => cases this
   | false => rw [hb] at h; exact ih ha.2 row h x hx
 exact key globTab (by kernel_rfl) row h
theorem compare_cmp : CmpOk En0 47 := by
 intro W2 a b ya yb hg hya hyb ha hb
 have W : WR En (Vw.all W2) G.none W2 := WR.all hg
 have hargs : RepArgs (Vw.all W2) [.p (.sl (a.map eInt)), .p (.sl (b.map eInt))] #[ya, yb] := args_two (.cell (.p hya)) (.cell (.p hyb))
 refine (enter_still (E := En) En_ok W hargs (compare_ok (Rd.p a) (Rd.p b) ha G.none)).mono ?_
 rintro e w' ⟨r, y, v', g', rfl, ⟨rfl, _⟩, hr, q, os', hw⟩
 refine ⟨?_, q, os', hw⟩
 cases hr with
 | a hr => cases hr with | cell hr => cases hr with | p hr => cases hr; rfl
theorem sortF_nil : Pure En 46 [.p .nilsl, .fn (.func 47) []] (.tup []) := pure_quiet mixed (n := 3000) fun g => by kernel_rfl
theorem compact_nil : Pure En 48 [.p .nilsl, .fn (.func 49) []] (.p .nilsl) := pure_quiet mixed (n := 1000) fun g => by kernel_rfl
theorem clone_ok (x : Sl ByteArray) (h : x.l.length < 2 ^ 40) : Pure En 45 [.p (x.enc eStr)] (.p (x.enc eStr)) := by
 unfold Sl.enc
 cases hx : x.nil with
 | true => exact pure_quiet mixed (n := 1000) fun g => by kernel_rfl
 | false => exact cloneS_ok x.l h
theorem sortF_at {g : G} {os : List Ob} {ts : List Nat} {v : V} {cs : List V} {us : List (List Int)} {o : Option Nat} (hwo : g.wo = g.objs.length) (hA : ArrAt g.objs.length os 1 v cs us.length o) (hcu : RowsOf cs us) (hul : ∀ u, u ∈ us → u.length < 2 ^ 60) (hu : us.length < 2 ^ 60) (hpos : ∀ i, o = some i → 0 < us.length) :
  Ev En (.call 46 [v, .fn (.func 47) []] (g.ext os ts) fun r g' => r = .tup [] ∧ ∃ os' cs', g' = g.ext os' ts ∧ ArrAt g.objs.length os' 1 v cs' us.length o ∧ RowsOf cs' (srtL us) ∧ os'.length = os.length ∧ ∀ j, o ≠ some j → os'[j]? = os[j]?) := by
 generalize hn : us.length = n at hA
 cases hA with
 | nil =>
  have hus : us = [] := List.length_eq_zero_iff.1 hn
  subst hus
  refine Ev.monoF En_mono (sortF_nil _) ?_
  rintro r g' ⟨rfl, rfl⟩
  exact ⟨rfl, os, [], rfl, .nil, by rw [show srtL [] = [] by simp [srtL]]; exact RowsOf.nil, rfl, fun _ _ => rfl⟩
 | arr i _ _ ho hl =>
  subst hn
  have hobj : (g.ext os ts).objs[g.objs.length + i]? = some (.cells cs) := by rw [ext_obj]; exact ho
  have hlt := (List.getElem?_eq_some_iff.1 ho).1
  refine Ev.monoF En_mono (Ev.prim (E := En) ⟨_, fzA_refl _, sortF_sound (E := En0) (ρ := Tryz.sortF_ren) Tryz.sortF (gC := 47) (enters_of Tryz.func47 (by kernel_rfl) rfl) compare_cmp glob_plain hobj hcu hul hu (hpos i rfl)⟩) ?_
  rintro r g' ⟨rfl, cs', hr, rfl⟩
  refine ⟨rfl, os.set i (.cells cs'), cs', ext_set hwo, ?_, hr, by simp, fun j hj => List.getElem?_set_ne (fun e => hj (by rw [e]))⟩
  exact .arr i cs' _ (by rw [List.getElem?_set_self hlt]) (by rw [hr.1, srtL_len, Nat.mul_one])
inductive RowV (B : Nat) (os : List Ob) : V → List (List Int) → Option Nat → Prop
 | nil : RowV B os (.p .nilsl) [] none
 | arr (i cap : Nat) (C nz : List V) (us : List (List Int)) : os[i]? = some (.cells (C ++ nz)) → RowsOf C us → RowV B os (.arr (B + i) 0 us.length cap 1) us (some i)
theorem compactF_at {g : G} {os : List Ob} {ts : List Nat} {v : V} {cs : List V} {us : List (List Int)} {o : Option Nat} (hw0 : g.wo = g.objs.length) (ht0 : g.wt = g.toks.length) (hA : ArrAt g.objs.length os 1 v cs us.length o) (hcu : RowsOf cs us) (hul : ∀ u, u ∈ us → u.length < 2 ^ 60) (hu : us.length < 2 ^ 60) :
  Ev En (.call 48 [v, .fn (.func 49) []] (g.ext os ts) fun r g' => ∃ os', g' = g.ext os' ts ∧ RowV g.objs.length os' r (compU us us.length) o ∧ os'.length = os.length ∧ ∀ j, o ≠ some j → os'[j]? = os[j]?) := by
 generalize hn : us.length = n at hA
 cases hA with
 | nil =>
  have hus : us = [] := List.length_eq_zero_iff.1 hn
  subst hus
  refine Ev.monoF En_mono (compact_nil _) ?_
  rintro r g' ⟨rfl, rfl⟩
  exact ⟨os, rfl, .nil, rfl, fun _ _ => rfl⟩
 | arr i _ _ ho hl =>
  subst hn
  have hobj : (g.ext os ts).objs[g.objs.length + i]? = some (.cells cs) := by rw [ext_obj]; exact ho
  have hlt := (List.getElem?_eq_some_iff.1 ho).1
  refine Ev.monoF En_mono (compact_ok (g0 := g.ext os ts) hobj hcu hul hu (by show g.wo ≤ _; omega) (by show g.wt ≤ (g.toks ++ ts).length; simp; omega)) ?_
  rintro r g' ⟨rfl, rfl⟩
  have hr := compT_rows hcu us.length (Nat.le_refl _)
  refine ⟨os.set i (.cells (compT cs us us.length ++ List.replicate (us.length - (compT cs us us.length).length) (.p .nilsl))), ?_, ?_, by simp, fun j hj => List.getElem?_set_ne (fun e => hj (by rw [e]))⟩
  ·simp only [G.upd, G.ext]
   congr 1
   rw [List.set_append_right _ _ (Nat.le_add_right _ _)]
   simp
  ·rw [hr.1]
   exact .arr i _ _ _ _ (List.getElem?_set_self hlt) hr
end Go.Vm
