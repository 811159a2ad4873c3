/- Part 17 of the texts that the claim leans on: a judgement on the program over plain values, its soundness, and contracts of functions. -/
import Derived.Test.YtmknnanbmkmnjaaGreatDoorW16
import Derived.Lib.ItoaLen
set_option linter.unusedVariables false
set_option linter.unusedSimpArgs false
set_option linter.unusedVariables false
namespace Go.Vm
open Go Go.Proofs
theorem zv118 : zeroV En 118 = some (.agg [.p (.bool false), .p (.bool false)]) := by kernel_rfl
abbrev Met := List (Int × Bool × Bool)
def metGet : Met → Int → Bool × Bool
 | [], _ => (false, false)
 | x :: M, v => if v = x.1 then x.2 else metGet M v
def metHas : Met → Int → Bool
 | [], _ => false
 | x :: M, v => if v = x.1 then true else metHas M v
def metSet : Met → Int → Bool × Bool → Met
 | [], _, _ => []
 | x :: M, v, q => if v = x.1 then (v, q) :: M else x :: metSet M v q
def metPut (M : Met) (v : Int) (q : Bool × Bool) : Met := if metHas M v then metSet M v q else M ++ [(v, q)]
def metAdd (M : Met) (v : Int) (p : Bool) : Met := metPut M v ((metGet M v).1 || p, (metGet M v).2 || !p)
def metVars (p : Bool) (M : Met) (vs : List Int) : Met := vs.foldl (fun M v => metAdd M v p) M
def metS (L : List StateP) (M : Met) (i : Int) : Met := match L[i.toNat]? with
 | some s => metVars s.plus M s.vars.l
 | none => M
def metL (L : List StateP) (r : List Int) : Met := r.foldl (metS L) []
noncomputable def idleB (L : List StateP) (root : Int) (v : Int) : Bool := !(metGet (metL L (reachL L root)) v).1 || !(metGet (metL L (reachL L root)) v).2
def ePair (q : Bool × Bool) : V := .agg [.p (.bool q.1), .p (.bool q.2)]
def esMn (n : Nat) (M : Met) : List (PV × V × Nat) := (M.zipIdx n).map fun x => (.int .i64 x.1.1, ePair x.1.2, x.2)
def esM (M : Met) : List (PV × V × Nat) := esMn 0 M
theorem esM_ok (M : Met) : (esM M).all (fun e => keyOk (.int .i64) e.1) = true := by
 rw [List.all_eq_true]
 intro e he
 obtain ⟨x, _, rfl⟩ := List.mem_map.1 he
 rfl
theorem esMn_find (v : Int) : ∀ (M : Met) (n : Nat), findKey (esMn n M) (.int .i64 v) = if metHas M v then some (ePair (metGet M v)) else none
 | [], n => rfl
 | x :: M, n => by
  simp only [esMn, List.zipIdx_cons, List.map_cons, findKey, keyEq, metHas, metGet]
  by_cases h : v = x.1
  ·simp [h]
  ·have : (v == x.1) = false := by simpa using h
   simp only [this, Bool.and_false, Bool.false_eq_true, if_false, h]
   exact esMn_find v M (n + 1)
theorem esMn_set (v : Int) (q : Bool × Bool) : ∀ (M : Met) (n : Nat), setKey (esMn n M) (.int .i64 v) (ePair q) = esMn n (metSet M v q)
 | [], n => rfl
 | x :: M, n => by
  simp only [esMn, List.zipIdx_cons, List.map_cons, setKey, keyEq, metSet]
  by_cases h : v = x.1
  ·simp [h]
  ·have : (v == x.1) = false := by simpa using h
   simp only [this, Bool.and_false, Bool.false_eq_true, if_false, h, List.zipIdx_cons, List.map_cons]
   congr 1
   exact esMn_set v q M (n + 1)
theorem metSet_len (v : Int) (q : Bool × Bool) : ∀ M : Met, (metSet M v q).length = M.length
 | [] => rfl
 | x :: M => by unfold metSet; split <;> simp [metSet_len v q M]
theorem findM (M : Met) (v : Int) : (match findKey (esM M) (.int .i64 v) with | some v => (if false then .tup [v, .p (.bool true)] else v) | none => (if false then .tup [V.agg [.p (.bool false), .p (.bool false)], .p (.bool false)] else V.agg [.p (.bool false), .p (.bool false)])) = V.agg [.p (.bool (metGet M v).1), .p (.bool (metGet M v).2)] := by
 rw [esM, esMn_find]
 have none : ∀ M : Met, metHas M v = false → metGet M v = (false, false) := by
  intro M
  induction M with
  | nil => intro _; rfl
  | cons x M ih =>
   intro h
   unfold metHas at h
   split at h
   ·cases h
   ·rename_i hx; unfold metGet; rw [if_neg hx]; exact ih h
 cases h : metHas M v with
 | true => simp [ePair]
 | false => rw [none M h]; simp
theorem met_fin {M : Met} {v : Int} {p q1 q2 : Bool} (h1 : q1 = ((metGet M v).1 || p)) (h2 : q2 = ((metGet M v).2 || !p)) :
  Ob.map (insK (esM M) (.int .i64 v) (.agg [.p (.bool q1), .p (.bool q2)]) M.length) (insC (esM M) (.int .i64 v) M.length) = .map (esM (metAdd M v p)) (metAdd M v p).length := by
 subst h1 h2
 have hf := esMn_find v M 0
 unfold insK insC metAdd metPut esM
 cases h : metHas M v with
 | true =>
  rw [h] at hf
  simp only [if_true] at hf
  simp only [hf, if_true]
  rw [metSet_len]
  congr 1
  exact esMn_set v ((metGet M v).1 || p, (metGet M v).2 || !p) M 0
 | false =>
  rw [h] at hf
  simp only [Bool.false_eq_true, if_false] at hf
  simp only [hf, Bool.false_eq_true, if_false]
  simp [esMn, List.zipIdx_append, ePair]
def addNew (D : List Int) (v : Int) : List Int := if v ∈ D then D else D ++ [v]
theorem addNew_put (D : List Int) (v : Int) : Ob.map (insK (esI D) (.int .i64 v) (.p (.bool true)) D.length) (insC (esI D) (.int .i64 v) D.length) = .map (esI (addNew D v)) (addNew D v).length := by
 unfold insK insC addNew
 have hf := find_esI D v
 by_cases h : v ∈ D
 ·rw [if_pos h] at hf
  simp only [hf, if_pos h]
  congr 1
  have key : ∀ (l : List Int) (n : Nat), setKey ((l.zipIdx n).map fun x => ((.int .i64 x.1, .p (.bool true), x.2) : PV × V × Nat)) (.int .i64 v) (.p (.bool true)) = (l.zipIdx n).map fun x => ((.int .i64 x.1, .p (.bool true), x.2) : PV × V × Nat) := by
   intro l
   induction l with
   | nil => intro n; rfl
   | cons a l ih =>
    intro n
    simp only [List.zipIdx_cons, List.map_cons, setKey, keyEq]
    by_cases h : v = a
    ·simp [h]
    ·have : (v == a) = false := by simpa using h
     simp only [this, Bool.and_false, Bool.false_eq_true, if_false]
     rw [ih (n + 1)]
  exact key D 0
 ·rw [if_neg h] at hf
  simp only [hf, if_neg h, esI_snoc]
  simp
def idleV (f : Int → Bool) (D : List Int) (vs : List Int) : List Int := vs.foldl (fun D v => if f v then addNew D v else D) D
def idleD (f : Int → Bool) (L : List StateP) : List Int := L.foldl (fun D s => idleV f D s.vars.l) []
theorem foldl_succ {α β : Type} {f : β → α → β} {b : β} {l : List α} {i : Nat} {x : α} (e : l[i]? = some x) : (l.take (i + 1)).foldl f b = f ((l.take i).foldl f b) x := by
 have hi := (List.getElem?_eq_some_iff.1 e).1
 rw [List.take_succ_eq_append_getElem hi, List.foldl_append, (List.getElem?_eq_some_iff.1 e).2]
 rfl
theorem foldl_all {α β : Type} {f : β → α → β} {b : β} {l : List α} {i : Nat} (h : l.length ≤ i) : (l.take i).foldl f b = l.foldl f b := by rw [List.take_of_length_le h]
theorem met_step {g : G} {p : Bool} {v : Int} {k : Nat} {M0 M : Met} {vs : List Int} (hM : M = metVars p M0 (vs.take k)) (ev : vs[k]? = some v) {q1 q2 : Bool} (h1 : q1 = ((metGet M v).1 || p)) (h2 : q2 = ((metGet M v).2 || !p)) :
  g.ext [.map (esM (metVars p M0 (vs.take (k + 1)))) (metVars p M0 (vs.take (k + 1))).length] [] = g.ext [Ob.map (insK (esM M) (.int .i64 v) (.agg [.p (.bool q1), .p (.bool q2)]) M.length) (insC (esM M) (.int .i64 v) M.length)] [] := by
 rw [met_fin h1 h2, show metVars p M0 (vs.take (k + 1)) = metAdd M v p by rw [hM]; exact foldl_succ ev]
theorem met_out {L : List StateP} {r : List Int} {a k : Nat} {i : Int} {s : StateP} (ei : r[a]? = some i) (es : L[i.toNat]? = some s) (hk : s.vars.l.length ≤ k) : (r.take (a + 1)).foldl (metS L) [] = metVars s.plus ((r.take a).foldl (metS L) []) (s.vars.l.take k) := by
 rw [foldl_succ ei, List.take_of_length_le hk]
 unfold metS
 rw [es]
theorem idle_step {g : G} {o : Ob} {f : Int → Bool} {v : Int} {k : Nat} {D0 D vs : List Int} (hD : D = idleV f D0 (vs.take k)) (ev : vs[k]? = some v) (hf : f v = true) :
  g.ext [o, .map (esI (idleV f D0 (vs.take (k + 1)))) (idleV f D0 (vs.take (k + 1))).length] [] = g.ext [o, Ob.map (insK (esI D) (.int .i64 v) (.p (.bool true)) D.length) (insC (esI D) (.int .i64 v) D.length)] [] := by
 rw [addNew_put, show idleV f D0 (vs.take (k + 1)) = addNew D v by rw [hD]; unfold idleV; rw [foldl_succ ev, hf]; rfl]
theorem idle_skip {f : Int → Bool} {v : Int} {k : Nat} {D0 D vs : List Int} (hD : D = idleV f D0 (vs.take k)) (ev : vs[k]? = some v) (hf : f v = false) : idleV f D0 (vs.take (k + 1)) = D := by
 rw [hD]; unfold idleV; rw [foldl_succ ev, hf]; rfl
theorem idle_out {L : List StateP} {f : Int → Bool} {j k : Nat} {s : StateP} (es : L[j]? = some s) (hk : s.vars.l.length ≤ k) : (L.take (j + 1)).foldl (fun D s => idleV f D s.vars.l) [] = idleV f ((L.take j).foldl (fun D s => idleV f D s.vars.l) []) (s.vars.l.take k) := by
 rw [foldl_succ es, List.take_of_length_le hk]
theorem keep_ext {g0 g : G} {os : List Ob} {ts : List Nat} (hg : g = { g0 with wo := g0.objs.length, wt := g0.toks.length }) (hw : g0.wo ≤ g0.objs.length) (ht : g0.wt ≤ g0.toks.length) :
  G.mk (g.ext os ts).objs (g.ext os ts).toks (min g0.wo (g.ext os ts).wo) (min g0.wt (g.ext os ts).wt) = g0.ext os ts := by
 subst hg
 simp only [G.ext, Nat.min_eq_left hw, Nat.min_eq_left ht]
end Go.Vm
set_option linter.unusedVariables false
namespace Go.Vm
open Go Go.Proofs
attribute [local irreducible] wpL
set_option maxRecDepth 20000 in
theorem idle_ok {g0 : G} (hw0 : g0.wo ≤ g0.objs.length) (ht0 : g0.wt ≤ g0.toks.length) (L : Sl StateP) (root : Int) (hL : L.l.length < 2 ^ 60) (hs : ∀ s, s ∈ L.l → s.ok) (hv : ∀ s, s ∈ L.l → s.vars.l.length < 2 ^ 60) (hz : autoB L.l root = 0) : CallsAt En g0 43 [.agg ((AutoP.enc L root).map .p)] (.map (g0.objs.length + 1)) (g0.ext [.map (esM (metL L.l (reachL L.l root))) (metL L.l (reachL L.l root)).length, .map (esI (idleD (idleB L.l root) L.l)) (idleD (idleB L.l root) L.l).length] []) := by
 refine keep_walk [(0, .agg ((AutoP.enc L root).map .p))] Tryz.func43 rfl rfl rfl fun g hg => ?_
 show Wc En _ (Tryz.f43.body.getD .skip) [] (Sx 90 _ _ _ _ _ _)
 unfold Tryz.f43
 simp only [Option.getD_some]
 rw [← G.ext_nil g]
 have hwo : g.wo = g.objs.length := by rw [hg]
 have hwt : g.wt = g.toks.length := by rw [hg]
 have hgo : g.objs = g0.objs := by rw [hg]
 have hrl : (reachL L.l root).length ≤ L.l.length := by unfold reachL; have := List.length_filter_le (fun k => @decide (Rch L.l root k) (Classical.propDecidable _)) (rangeI L.l.length); rw [rangeI_len] at this; exact this
 refine wc_seq (wc_reg fun K hK => ?_)
 refine x_box rfl rfl rfl rfl rfl ?_
 refine x_assign rfl rfl rfl ?_
 refine x_nil (hK _ (go_seq (wc_seq (wc_reg fun K hK => ?_))))
 refine x_mkmap rfl rfl ?_
 refine x_assign rfl rfl rfl ?_
 refine x_nil (hK _ (go_seq (wc_seq (wc_seq (wc_reg fun K hK => ?_)))))
 refine x_ldLA rfl rfl rfl isag24 sz24 rfl rfl ?_
 refine x_call rfl rfl rfl (by repeat (first | exact ho_nil | refine ho_cons (by first | rfl | exact rd_ho (by assumption)) ?_)) okf12 (reach_ok L root hL hs _) ?_
 rw [if_pos hz]
 have hrd : Rd eInt (.p (.sl ((reachL L.l root).map eInt))) (reachL L.l root) := Rd.p _
 refine x_len rfl rfl rfl (by first | assumption | exact Rd.enc) und27 ?_
 refine x_move rfl rfl rfl ?_
 refine x_nil (hK _ (go_seq (wc_block ?_)))
 refine xc_loopG [(1, _), (3, _), (18, _), (19, _)] [(1, _)] (fun a : Nat => [(20, .p (.int .i64 a))]) (fun a : Nat => []) (fun a : Nat => g.ext [.map (esM (((reachL L.l root).take a).foldl (metS L.l) [])) (((reachL L.l root).take a).foldl (metS L.l) []).length] []) (fun a : Nat => a ≤ (reachL L.l root).length) (fun a : Nat => (reachL L.l root).length - a) 0 (by repeat first | exact trivial | refine .intro rfl ?_) (by repeat first | exact trivial | refine .intro rfl ?_) rfl (Nat.zero_le _) ?_
 rintro a R0 hR1_0 hR2_0 ha b rb
 refine wc_seq (wc_reg fun K hK => ?_)
 refine x_bin rfl rfl rfl rfl rfl ?_
 refine x_nil (hK _ (go_seq (wc_seq ?_)))
 refine xc_cond _ rfl (fun hc0 => ?_) (fun hc0 => ?_)
 ·have hlt : a < (reachL L.l root).length := by simpa using hc0
  obtain ⟨i0, ei⟩ : ∃ i0, (reachL L.l root)[a]? = some i0 := ⟨_, List.getElem?_eq_getElem hlt⟩
  have hr0 := rch_in hz ((reachL_mem hz).1 (List.mem_of_getElem? ei))
  obtain ⟨s, es⟩ : ∃ s, L.l[i0.toNat]? = some s := ⟨_, List.getElem?_eq_getElem (by omega)⟩
  have hms : s ∈ L.l := List.mem_of_getElem? es
  have hvl := hv s hms
  refine wc_skip (go_seq (wc_seq (wc_block (wc_seq (wc_reg fun K hK => ?_)))))
  refine x_ia rfl rfl rfl (by first | assumption | exact Rd.enc) rfl und27 sz3 rfl (by assumption) rfl ?_
  refine x_ldR rfl rfl rfl isag3 rfl ?_
  refine x_assign rfl rfl rfl ?_
  refine x_nil (hK _ (go_seq (wc_seq (wc_reg fun K hK => ?_))))
  refine x_fa rfl rfl rfl fld24_0 rfl ?_
  refine x_ldL rfl rfl rfl isag22 rfl rfl ?_
  refine x_move rfl rfl rfl ?_
  refine x_iaI rfl rfl rfl Rd.enc rfl und22 sz34 rfl hr0.1 es rfl ?_
  refine x_ldRA rfl rfl rfl isag34 sz34 rfl ?_
  refine x_alloc rfl rfl rfl zero34 rfl ?_
  refine x_stL rfl rfl rfl sz34 rfl rfl rfl rfl ?_
  refine x_nil (hK _ (go_seq (wc_seq (wc_reg fun K hK => ?_))))
  refine x_fa rfl rfl rfl fld34_2 rfl ?_
  refine x_ldL rfl rfl rfl isag27 rfl rfl ?_
  refine x_len rfl rfl rfl (by first | assumption | exact Rd.enc) und27 ?_
  refine x_move rfl rfl rfl ?_
  refine x_nil (hK _ (go_seq (wc_block ?_)))
  refine xc_loopG [(1, _), (3, _), (6, _), (18, _), (19, _), (20, _), (30, _), (31, _)] [(1, _), (6, _)] (fun k : Nat => [(32, .p (.int .i64 k))]) (fun k : Nat => []) (fun k : Nat => g.ext [.map (esM (metVars s.plus (((reachL L.l root).take a).foldl (metS L.l) []) (s.vars.l.take k))) (metVars s.plus (((reachL L.l root).take a).foldl (metS L.l) []) (s.vars.l.take k)).length] []) (fun k : Nat => k ≤ s.vars.l.length) (fun k : Nat => s.vars.l.length - k) 0 (by repeat first | exact trivial | refine .intro rfl ?_) (by repeat first | exact trivial | refine .intro rfl ?_) rfl (Nat.zero_le _) ?_
  rintro k R1 hR1_1 hR2_1 hk b rb
  refine wc_seq (wc_reg fun K hK => ?_)
  refine x_bin rfl rfl rfl rfl rfl ?_
  refine x_nil (hK _ (go_seq (wc_seq ?_)))
  refine xc_cond _ rfl (fun hc1 => ?_) (fun hc1 => ?_)
  ·have hlt2 : k < s.vars.l.length := by simpa using hc1
   obtain ⟨v, ev⟩ : ∃ v, s.vars.l[k]? = some v := ⟨_, List.getElem?_eq_getElem hlt2⟩
   obtain ⟨M, hM⟩ : ∃ M, M = metVars s.plus (((reachL L.l root).take a).foldl (metS L.l) []) (s.vars.l.take k) := ⟨_, rfl⟩
   rw [← hM]
   refine wc_skip (go_seq (wc_seq (wc_block (wc_seq (wc_reg fun K hK => ?_)))))
   refine x_ia rfl rfl rfl (by first | assumption | exact Rd.enc) rfl und27 sz3 rfl (by assumption) rfl ?_
   refine x_ldR rfl rfl rfl isag3 rfl ?_
   refine x_assign rfl rfl rfl ?_
   refine x_nil (hK _ (go_seq (wc_seq (wc_reg fun K hK => ?_))))
   refine x_move rfl rfl rfl ?_
   refine x_move rfl rfl rfl ?_
   refine x_lookup rfl rfl rfl rfl rfl und116 und3 zv118 rfl (esM_ok _) (findM _ _) ?_
   refine x_allocG rfl rfl rfl zero118 rfl fun G9 => ?_
   refine x_stL rfl rfl rfl sz118 rfl rfl rfl rfl ?_
   refine x_nil (hK _ (go_seq (wc_seq ?_)))
   refine xc_drwPXR (σ := Unit) (.seg [0, 1, 2, 3, 4, 5, 6, 7, 8, 9, 13] (.two 10 14 (.seg [11, 12, 14, 15, 16] .fin) (.seg [10, 11, 12, 15, 16] .fin))) mixed (by kernel_rfl) [(1, _), (3, _), (6, _), (8, _), (9, _), (18, _), (19, _), (20, _), (30, _), (31, _), (32, _)] [(1, _), (6, _)] (fun _ => []) (fun _ => [(9, (G9, [.p (.bool ((metGet M v).1 || s.plus)), .p (.bool ((metGet M v).2 || !s.plus))]))]) (fun _ => g.ext [.map (esM M) M.length] []) (fun _ => True) (by repeat first | exact trivial | refine .intro rfl ?_) (by repeat first | exact trivial | refine .intro rfl ?_) (fun K hK => ?_) ?_
   ·refine pl_seg ?_
    refine x_fa rfl rfl rfl fld118_0 rfl ?_
    refine x_ldL rfl rfl rfl isag4 rfl rfl ?_
    refine x_moveS rfl rfl rfl (fun hg41 => ?_) (fun hg41 => ?_)
    ·refine x_skip rfl rfl ?_
     refine x_skip rfl rfl ?_
     refine x_pickT rfl rfl rfl rfl ?_
     refine x_fa rfl rfl rfl fld118_1 rfl ?_
     refine x_ldL rfl rfl rfl isag4 rfl rfl ?_
     refine x_moveS rfl rfl rfl (fun hg47 => ?_) (fun hg47 => ?_)
     ·refine x_skip rfl rfl ?_
      refine x_fa rfl rfl rfl fld118_0 rfl ?_
      refine pl_end ?_
      refine pl_two ?_ ?_
      ·refine x_skip rfl rfl ?_
       refine pl_end ?_
       refine pl_seg ?_
       refine x_skip rfl rfl ?_
       refine x_pickT rfl rfl rfl rfl ?_
       refine x_stL rfl rfl rfl sz4 rfl rfl rfl rfl ?_
       refine x_fa rfl rfl rfl fld118_1 rfl ?_
       refine x_stL rfl rfl rfl sz4 rfl rfl rfl rfl ?_
       refine pl_end ?_
       refine pl_fin ?_
       exact hK () _ _ _ _ _ trivial (by repeat first | exact trivial | refine .intro rfl ?_) (by repeat (first | exact trivial | refine And.intro rfl ?_ | refine And.intro (by rw [hg41, hg47]; rfl) ?_)) rfl
      ·refine x_stL rfl rfl rfl sz4 rfl rfl rfl rfl ?_
       refine pl_end ?_
       refine pl_seg ?_
       refine x_skip rfl rfl ?_
       refine x_skip rfl rfl ?_
       refine x_pickT rfl rfl rfl rfl ?_
       refine x_fa rfl rfl rfl fld118_1 rfl ?_
       refine x_stL rfl rfl rfl sz4 rfl rfl rfl rfl ?_
       refine pl_end ?_
       refine pl_fin ?_
       exact hK () _ _ _ _ _ trivial (by repeat first | exact trivial | refine .intro rfl ?_) (by repeat (first | exact trivial | refine And.intro rfl ?_ | refine And.intro (by rw [hg41, hg47]; rfl) ?_)) rfl
     ·refine x_fa rfl rfl rfl fld34_0 rfl ?_
      refine x_fa rfl rfl rfl fld118_0 rfl ?_
      refine pl_end ?_
      refine pl_two ?_ ?_
      ·refine x_ldL rfl rfl rfl isag4 rfl rfl ?_
       refine pl_end ?_
       refine pl_seg ?_
       refine x_not rfl rfl rfl ?_
       refine x_pickF rfl rfl rfl rfl ?_
       refine x_stL rfl rfl rfl sz4 rfl rfl rfl rfl ?_
       refine x_fa rfl rfl rfl fld118_1 rfl ?_
       refine x_stL rfl rfl rfl sz4 rfl rfl rfl rfl ?_
       refine pl_end ?_
       refine pl_fin ?_
       exact hK () _ _ _ _ _ trivial (by repeat first | exact trivial | refine .intro rfl ?_) (by repeat (first | exact trivial | refine And.intro rfl ?_ | refine And.intro (by rw [hg41, hg47]; rfl) ?_)) rfl
      ·refine x_stL rfl rfl rfl sz4 rfl rfl rfl rfl ?_
       refine pl_end ?_
       refine pl_seg ?_
       refine x_ldL rfl rfl rfl isag4 rfl rfl ?_
       refine x_not rfl rfl rfl ?_
       refine x_pickF rfl rfl rfl rfl ?_
       refine x_fa rfl rfl rfl fld118_1 rfl ?_
       refine x_stL rfl rfl rfl sz4 rfl rfl rfl rfl ?_
       refine pl_end ?_
       refine pl_fin ?_
       exact hK () _ _ _ _ _ trivial (by repeat first | exact trivial | refine .intro rfl ?_) (by repeat (first | exact trivial | refine And.intro rfl ?_ | refine And.intro (by rw [hg41, hg47]; rfl) ?_)) rfl
    ·refine x_fa rfl rfl rfl fld34_0 rfl ?_
     refine x_ldL rfl rfl rfl isag4 rfl rfl ?_
     refine x_pickF rfl rfl rfl rfl ?_
     refine x_fa rfl rfl rfl fld118_1 rfl ?_
     refine x_ldL rfl rfl rfl isag4 rfl rfl ?_
     refine x_moveS rfl rfl rfl (fun hg47 => ?_) (fun hg47 => ?_)
     ·refine x_skip rfl rfl ?_
      refine x_fa rfl rfl rfl fld118_0 rfl ?_
      refine pl_end ?_
      refine pl_two ?_ ?_
      ·refine x_skip rfl rfl ?_
       refine pl_end ?_
       refine pl_seg ?_
       refine x_skip rfl rfl ?_
       refine x_pickT rfl rfl rfl rfl ?_
       refine x_stL rfl rfl rfl sz4 rfl rfl rfl rfl ?_
       refine x_fa rfl rfl rfl fld118_1 rfl ?_
       refine x_stL rfl rfl rfl sz4 rfl rfl rfl rfl ?_
       refine pl_end ?_
       refine pl_fin ?_
       exact hK () _ _ _ _ _ trivial (by repeat first | exact trivial | refine .intro rfl ?_) (by repeat (first | exact trivial | refine And.intro rfl ?_ | refine And.intro (by rw [hg41, hg47]; rfl) ?_)) rfl
      ·refine x_stL rfl rfl rfl sz4 rfl rfl rfl rfl ?_
       refine pl_end ?_
       refine pl_seg ?_
       refine x_skip rfl rfl ?_
       refine x_skip rfl rfl ?_
       refine x_pickT rfl rfl rfl rfl ?_
       refine x_fa rfl rfl rfl fld118_1 rfl ?_
       refine x_stL rfl rfl rfl sz4 rfl rfl rfl rfl ?_
       refine pl_end ?_
       refine pl_fin ?_
       exact hK () _ _ _ _ _ trivial (by repeat first | exact trivial | refine .intro rfl ?_) (by repeat (first | exact trivial | refine And.intro rfl ?_ | refine And.intro (by rw [hg41, hg47]; rfl) ?_)) rfl
     ·refine x_fa rfl rfl rfl fld34_0 rfl ?_
      refine x_fa rfl rfl rfl fld118_0 rfl ?_
      refine pl_end ?_
      refine pl_two ?_ ?_
      ·refine x_ldL rfl rfl rfl isag4 rfl rfl ?_
       refine pl_end ?_
       refine pl_seg ?_
       refine x_not rfl rfl rfl ?_
       refine x_pickF rfl rfl rfl rfl ?_
       refine x_stL rfl rfl rfl sz4 rfl rfl rfl rfl ?_
       refine x_fa rfl rfl rfl fld118_1 rfl ?_
       refine x_stL rfl rfl rfl sz4 rfl rfl rfl rfl ?_
       refine pl_end ?_
       refine pl_fin ?_
       exact hK () _ _ _ _ _ trivial (by repeat first | exact trivial | refine .intro rfl ?_) (by repeat (first | exact trivial | refine And.intro rfl ?_ | refine And.intro (by rw [hg41, hg47]; rfl) ?_)) rfl
      ·refine x_stL rfl rfl rfl sz4 rfl rfl rfl rfl ?_
       refine pl_end ?_
       refine pl_seg ?_
       refine x_ldL rfl rfl rfl isag4 rfl rfl ?_
       refine x_not rfl rfl rfl ?_
       refine x_pickF rfl rfl rfl rfl ?_
       refine x_fa rfl rfl rfl fld118_1 rfl ?_
       refine x_stL rfl rfl rfl sz4 rfl rfl rfl rfl ?_
       refine pl_end ?_
       refine pl_fin ?_
       exact hK () _ _ _ _ _ trivial (by repeat first | exact trivial | refine .intro rfl ?_) (by repeat (first | exact trivial | refine And.intro rfl ?_ | refine And.intro (by rw [hg41, hg47]; rfl) ?_)) rfl
   rintro _ b rb _
   refine go_seq (wc_reg fun K hK => ?_)
   refine x_move rfl rfl rfl ?_
   refine x_move rfl rfl rfl ?_
   refine x_ldLA rfl rfl rfl isag118 sz118 rfl rfl ?_
   refine x_mapput (Or.inl rfl) rfl hwo rfl rfl rfl rfl und116 und3 rfl (esM_ok _) rfl ?_
   refine x_nil (hK _ (go_blk (go_seq (wc_reg fun K hK => ?_))))
   refine x_inc rfl rfl rfl rfl (by omega) ?_
   refine x_move rfl rfl rfl ?_
   refine x_nil (hK _ ?_); clear hK K
   exact hR1_1 (k + 1) _ _ _ _ _ hlt2 (by omega) (by repeat first | exact trivial | refine .intro rfl ?_) (by repeat first | exact trivial | refine .intro rfl ?_) (met_step hM ev rfl rfl)
  ·refine wc_exit ?_
   refine go_seq_exit ?_
   refine hR2_1 _ _ (by simp) ?_
   refine go_blk_exit (go_blk (go_seq (wc_reg fun K hK => ?_)))
   refine x_inc rfl rfl rfl rfl (by omega) ?_
   refine x_move rfl rfl rfl ?_
   refine x_nil (hK _ ?_); clear hK K
   exact hR1_0 (a + 1) _ _ _ _ _ hlt (by omega) (by repeat first | exact trivial | refine .intro rfl ?_) (by repeat first | exact trivial | refine .intro rfl ?_) (by rw [met_out ei es (by simp at hc1; omega)])
 ·rw [show ((reachL L.l root).take a).foldl (metS L.l) [] = metL L.l (reachL L.l root) from foldl_all (by simp at hc0; omega)]
  obtain ⟨M, hM⟩ : ∃ M, M = metL L.l (reachL L.l root) := ⟨_, rfl⟩
  have hI : ∀ v, idleB L.l root v = (!(metGet M v).1 || !(metGet M v).2) := fun v => by rw [hM]; rfl
  rw [← hM]
  refine wc_exit ?_
  refine go_seq_exit ?_
  refine hR2_0 _ _ (by simp) ?_
  refine go_blk_exit (go_seq (wc_seq (wc_reg fun K hK => ?_)))
  refine x_mkmap rfl rfl ?_
  refine x_assign rfl rfl rfl ?_
  refine x_nil (hK _ (go_seq (wc_seq (wc_seq (wc_reg fun K hK => ?_)))))
  refine x_fa rfl rfl rfl fld24_0 rfl ?_
  refine x_ldL rfl rfl rfl isag22 rfl rfl ?_
  refine x_len rfl rfl rfl (by first | assumption | exact Rd.enc) und22 ?_
  refine x_move rfl rfl rfl ?_
  refine x_nil (hK _ (go_seq (wc_block ?_)))
  refine xc_loopG [(1, _), (3, _), (10, _), (18, _), (19, _), (20, _), (61, _), (62, _)] [(1, _)] (fun j : Nat => [(63, .p (.int .i64 j))]) (fun j : Nat => []) (fun j : Nat => g.ext [.map (esM M) M.length, .map (esI ((L.l.take j).foldl (fun D s => idleV (idleB L.l root) D s.vars.l) [])) ((L.l.take j).foldl (fun D s => idleV (idleB L.l root) D s.vars.l) []).length] []) (fun j : Nat => j ≤ L.l.length) (fun j : Nat => L.l.length - j) 0 (by repeat first | exact trivial | refine .intro rfl ?_) (by repeat first | exact trivial | refine .intro rfl ?_) rfl (Nat.zero_le _) ?_
  rintro j R2 hR1_2 hR2_2 hj b rb
  refine wc_seq (wc_reg fun K hK => ?_)
  refine x_bin rfl rfl rfl rfl rfl ?_
  refine x_nil (hK _ (go_seq (wc_seq ?_)))
  refine xc_cond _ rfl (fun hc2 => ?_) (fun hc2 => ?_)
  ·have hlt3 : j < L.l.length := by simpa using hc2
   obtain ⟨s, es⟩ : ∃ s, L.l[j]? = some s := ⟨_, List.getElem?_eq_getElem hlt3⟩
   have hms : s ∈ L.l := List.mem_of_getElem? es
   have hvl := hv s hms
   refine wc_skip (go_seq (wc_seq (wc_block (wc_seq (wc_reg fun K hK => ?_)))))
   refine x_ia rfl rfl rfl (by first | assumption | exact Rd.enc) rfl und22 sz34 rfl (by assumption) rfl ?_
   refine x_ldRA rfl rfl rfl isag34 sz34 rfl ?_
   refine x_alloc rfl rfl rfl zero34 rfl ?_
   refine x_stL rfl rfl rfl sz34 rfl rfl rfl rfl ?_
   refine x_nil (hK _ (go_seq (wc_seq (wc_reg fun K hK => ?_))))
   refine x_fa rfl rfl rfl fld34_2 rfl ?_
   refine x_ldL rfl rfl rfl isag27 rfl rfl ?_
   refine x_len rfl rfl rfl (by first | assumption | exact Rd.enc) und27 ?_
   refine x_move rfl rfl rfl ?_
   refine x_nil (hK _ (go_seq (wc_block ?_)))
   refine xc_loopG [(1, _), (3, _), (10, _), (18, _), (19, _), (20, _), (61, _), (62, _), (63, _), (68, _), (69, _)] [(1, _)] (fun k : Nat => [(70, .p (.int .i64 k))]) (fun k : Nat => []) (fun k : Nat => g.ext [.map (esM M) M.length, .map (esI (idleV (idleB L.l root) ((L.l.take j).foldl (fun D s => idleV (idleB L.l root) D s.vars.l) []) (s.vars.l.take k))) (idleV (idleB L.l root) ((L.l.take j).foldl (fun D s => idleV (idleB L.l root) D s.vars.l) []) (s.vars.l.take k)).length] []) (fun k : Nat => k ≤ s.vars.l.length) (fun k : Nat => s.vars.l.length - k) 0 (by repeat first | exact trivial | refine .intro rfl ?_) (by repeat first | exact trivial | refine .intro rfl ?_) rfl (Nat.zero_le _) ?_
   rintro k R3 hR1_3 hR2_3 hk b rb
   refine wc_seq (wc_reg fun K hK => ?_)
   refine x_bin rfl rfl rfl rfl rfl ?_
   refine x_nil (hK _ (go_seq (wc_seq ?_)))
   refine xc_cond _ rfl (fun hc3 => ?_) (fun hc3 => ?_)
   ·have hlt4 : k < s.vars.l.length := by simpa using hc3
    obtain ⟨v, ev⟩ : ∃ v, s.vars.l[k]? = some v := ⟨_, List.getElem?_eq_getElem hlt4⟩
    obtain ⟨D, hD⟩ : ∃ D, D = idleV (idleB L.l root) ((L.l.take j).foldl (fun D s => idleV (idleB L.l root) D s.vars.l) []) (s.vars.l.take k) := ⟨_, rfl⟩
    rw [← hD]
    refine wc_skip (go_seq (wc_seq (wc_block (wc_seq (wc_reg fun K hK => ?_)))))
    refine x_ia rfl rfl rfl (by first | assumption | exact Rd.enc) rfl und27 sz3 rfl (by assumption) rfl ?_
    refine x_ldR rfl rfl rfl isag3 rfl ?_
    refine x_assign rfl rfl rfl ?_
    refine x_nil (hK _ (go_seq (wc_seq (wc_reg fun K hK => ?_))))
    refine x_move rfl rfl rfl ?_
    refine x_move rfl rfl rfl ?_
    refine x_lookup rfl rfl rfl rfl rfl und116 und3 zv118 rfl (esM_ok _) (findM _ _) ?_
    refine x_alloc rfl rfl rfl zero118 rfl ?_
    refine x_stL rfl rfl rfl sz118 rfl rfl rfl rfl ?_
    refine x_nil (hK _ (go_seq (wc_seq (wc_reg fun K hK => ?_))))
    refine x_fa rfl rfl rfl fld118_0 rfl ?_
    refine x_ldL rfl rfl rfl isag4 rfl rfl ?_
    refine x_not rfl rfl rfl ?_
    refine x_moveS rfl rfl rfl (fun hg80 => ?_) (fun hg80 => ?_)
    ·refine x_skip rfl rfl ?_
     refine x_skip rfl rfl ?_
     refine x_skip rfl rfl ?_
     refine x_pickT rfl rfl rfl rfl ?_
     refine x_nil (hK _ (go_seq ?_))
     refine xc_cond true rfl (fun _ => ?_) (fun h => by cases h)
     refine wc_reg fun K hK => ?_
     refine x_move rfl rfl rfl ?_
     refine x_move rfl rfl rfl ?_
     refine x_mapput (Or.inl rfl) rfl hwo rfl rfl rfl rfl und71 und3 rfl (esI_ok _) rfl ?_
     refine x_nil (hK _ (go_blk (go_seq (wc_reg fun K hK => ?_))))
     refine x_inc rfl rfl rfl rfl (by omega) ?_
     refine x_move rfl rfl rfl ?_
     refine x_nil (hK _ ?_); clear hK K
     exact hR1_3 (k + 1) _ _ _ _ _ hlt4 (by omega) (by repeat first | exact trivial | refine .intro rfl ?_) (by repeat first | exact trivial | refine .intro rfl ?_) (idle_step hD ev (by rw [hI, hg80]; rfl))
    ·refine x_fa rfl rfl rfl fld118_1 rfl ?_
     refine x_ldL rfl rfl rfl isag4 rfl rfl ?_
     refine x_not rfl rfl rfl ?_
     refine x_pickF rfl rfl rfl rfl ?_
     refine x_nil (hK _ (go_seq ?_))
     refine xc_cond _ rfl (fun hc4 => ?_) (fun hc4 => ?_)
     ·refine wc_reg fun K hK => ?_
      refine x_move rfl rfl rfl ?_
      refine x_move rfl rfl rfl ?_
      refine x_mapput (Or.inl rfl) rfl hwo rfl rfl rfl rfl und71 und3 rfl (esI_ok _) rfl ?_
      refine x_nil (hK _ (go_blk (go_seq (wc_reg fun K hK => ?_))))
      refine x_inc rfl rfl rfl rfl (by omega) ?_
      refine x_move rfl rfl rfl ?_
      refine x_nil (hK _ ?_); clear hK K
      exact hR1_3 (k + 1) _ _ _ _ _ hlt4 (by omega) (by repeat first | exact trivial | refine .intro rfl ?_) (by repeat first | exact trivial | refine .intro rfl ?_) (idle_step hD ev (by rw [hI, hg80, hc4]; rfl))
     ·refine wc_skip (go_blk (go_seq (wc_reg fun K hK => ?_)))
      refine x_inc rfl rfl rfl rfl (by omega) ?_
      refine x_move rfl rfl rfl ?_
      refine x_nil (hK _ ?_); clear hK K
      exact hR1_3 (k + 1) _ _ _ _ _ hlt4 (by omega) (by repeat first | exact trivial | refine .intro rfl ?_) (by repeat first | exact trivial | refine .intro rfl ?_) (by rw [idle_skip hD ev (by rw [hI, hg80, hc4]; rfl)])
   ·refine wc_exit ?_
    refine go_seq_exit ?_
    refine hR2_3 _ _ (by simp) ?_
    refine go_blk_exit (go_blk (go_seq (wc_reg fun K hK => ?_)))
    refine x_inc rfl rfl rfl rfl (by omega) ?_
    refine x_move rfl rfl rfl ?_
    refine x_nil (hK _ ?_); clear hK K
    exact hR1_2 (j + 1) _ _ _ _ _ hlt3 (by omega) (by repeat first | exact trivial | refine .intro rfl ?_) (by repeat first | exact trivial | refine .intro rfl ?_) (by rw [idle_out es (by simp at hc3; omega)])
  ·refine wc_exit ?_
   refine go_seq_exit ?_
   refine hR2_2 _ _ (by simp) ?_
   refine go_blk_exit (go_seq (wc_seq (wc_reg fun K hK => ?_)))
   refine x_move rfl rfl rfl ?_
   refine x_assign rfl rfl rfl ?_
   refine x_nil (hK _ (go_seq (wc_ret ?_)))
   exact x_endK (Or.inr rfl) rfl rfl rfl (by rw [foldl_all (by simp at hc2; omega)]; subst hM; exact keep_ext hg hw0 ht0) (by rw [hgo]; rfl)
end Go.Vm
set_option linter.unusedVariables false
namespace Go.Vm
open Go Go.Proofs
section
variable {E : Env} {qt : Bool} {ops : Array Oper} {l : List Oper} {K : St → Prop}
variable {nt : Nat} {esc : Nat → Bool} {g : G} {os : List Ob} {ts : List Nat}
variable {d : Nat} {ty : TypeId} {pos : String} {after : Array Edge} {gd : Option (Nat × Bool)}
variable {b : Nat → V} {L : List (Nat × V)} {rb : Nat → Option (Nat × List V)} {R : List (Nat × (Nat × List V))}
theorem x_lookupO {t kt et : TypeId} {kd : TypeDesc} {zv r : V} {x y : Operand} {id c : Nat} {k : PV} {es : List (PV × V × Nat)} {ok : Bool} (h : wX ops nt L gd = some true) (hd : Nat.blt d nt = true) (hx : evX E L x = some (.map id)) (hy : evX E L y = some (.p k))
  (ho : g.objs[id]? = some (.map es c)) (hu : E.P.underlying t = some (.map kt et)) (hk : E.P.underlying kt = some kd) (hz : zeroV E et = some zv) (hok : keyOk kd k = true) (hall : es.all (fun e => keyOk kd e.1) = true)
  (hr : (match findKey es k with | some v => (if ok then .tup [v, .p (.bool true)] else v) | none => (if ok then .tup [zv, .p (.bool false)] else zv)) = r)
  (kk : wpL E qt ops l (Sx nt b ((d, r) :: L) rb R esc g) K) : wpL E qt ops (⟨some d, .lookup t x y ok, ty, pos, after, gd⟩ :: l) (Sx nt b L rb R esc g) K := by
 refine x_op (s1 := Sx nt b L rb R esc g) h hd rfl ?_ kk
 have he : entriesOf (Sx nt b L rb R esc g).g (.map id) = some es := by simp only [entriesOf, Sx, ho]
 simp only [stepV, evS hx, evS hy, hu, hk, hz, he, hok, hall, and_self, if_true]
 subst hr
 cases findKey es k <;> rfl
end
structure Head.tn (h : Head) : Prop where
 lo : -9223372036854775808 ≤ h.kind
 hi : h.kind ≤ 9223372036854775807
 names : h.names.l.length ≤ 1024
 kids : h.kids.l.length ≤ 1024
 each : ∀ s, s ∈ h.names.l → s.size ≤ 1024
structure StateP.tn (s : StateP) : Prop where
 heads : s.heads.l.length ≤ 1024
 vars : s.vars.l.length ≤ 1024
 rng : ∀ v, v ∈ s.vars.l → -9223372036854775808 ≤ v ∧ v ≤ 9223372036854775807
 each : ∀ h, h ∈ s.heads.l → h.tn
theorem StateP.tn.ok {s : StateP} (h : s.tn) : s.ok := ⟨by have := h.heads; omega, by have := h.vars; omega, fun k hk => ⟨by have := (h.each k hk).names; omega, fun q hq => by have := (h.each k hk).each q hq; omega, by have := (h.each k hk).kids; omega⟩⟩
def boolB (b : Bool) : ByteArray := if b then ⟨#[116, 114, 117, 101]⟩ else ⟨#[102, 97, 108, 115, 101]⟩
def spB : ByteArray := ⟨#[32]⟩
def semiB : ByteArray := ⟨#[59]⟩
def commaB : ByteArray := ⟨#[44]⟩
def signV (D : List Int) (acc : ByteArray) (vs : List Int) : ByteArray := vs.foldl (fun out v => if v ∈ D then out else out ++ (spB ++ itoaB v)) acc
def signN (acc : ByteArray) (ns : List ByteArray) : ByteArray := ns.foldl (fun out n => out ++ (commaB ++ n)) acc
def signH1 (out : ByteArray) (h : Head) : ByteArray := out ++ ((semiB ++ itoaB h.kind) ++ boolB h.op)
def signH (acc : ByteArray) (hs : List Head) : ByteArray := hs.foldl (fun out h => signN (signH1 out h) h.names.l) acc
def signB (D : List Int) (s : StateP) : ByteArray := signH (signV D (boolB s.plus) s.vars.l) s.heads.l
theorem bool_size (b : Bool) : (boolB b).size ≤ 5 := by cases b <;> decide
theorem itoa_size {n : Int} (h0 : -9223372036854775808 ≤ n) (h1 : n ≤ 9223372036854775807) : (itoaB n).size ≤ 21 := by
 have := Lib.itoa_length_le n h0 h1
 unfold itoaB
 simpa [ByteArray.size] using this
theorem signV_size {D : List Int} : ∀ (vs : List Int) (acc : ByteArray), (∀ v, v ∈ vs → -9223372036854775808 ≤ v ∧ v ≤ 9223372036854775807) → (signV D acc vs).size ≤ acc.size + 22 * vs.length
 | [], acc, _ => by simp [signV]
 | v :: vs, acc, h => by
  have ih := signV_size (D := D) vs (if v ∈ D then acc else acc ++ (spB ++ itoaB v)) fun u hu => h u (List.mem_cons_of_mem _ hu)
  have hv := h v List.mem_cons_self
  have hi := itoa_size hv.1 hv.2
  have e1 : (if v ∈ D then acc else acc ++ (spB ++ itoaB v)).size ≤ acc.size + 22 := by
   split
   ·omega
   ·have : spB.size = 1 := rfl
    simp only [ByteArray.size_append]; omega
  have e2 : signV D acc (v :: vs) = signV D (if v ∈ D then acc else acc ++ (spB ++ itoaB v)) vs := rfl
  rw [e2, List.length_cons]
  omega
theorem signN_size : ∀ (ns : List ByteArray) (acc : ByteArray), (∀ n, n ∈ ns → n.size ≤ 1024) → (signN acc ns).size ≤ acc.size + 1025 * ns.length
 | [], acc, _ => by simp [signN]
 | n :: ns, acc, h => by
  have ih := signN_size ns (acc ++ (commaB ++ n)) fun u hu => h u (List.mem_cons_of_mem _ hu)
  have hv := h n List.mem_cons_self
  have : commaB.size = 1 := rfl
  have e2 : signN acc (n :: ns) = signN (acc ++ (commaB ++ n)) ns := rfl
  rw [e2, List.length_cons]
  simp only [ByteArray.size_append] at ih
  omega
theorem signH1_size {acc : ByteArray} {h : Head} (ht : h.tn) : (signH1 acc h).size ≤ acc.size + 27 := by
 have := bool_size h.op
 have := itoa_size ht.lo ht.hi
 have : semiB.size = 1 := rfl
 unfold signH1
 simp only [ByteArray.size_append]
 omega
theorem signH_size : ∀ (hs : List Head) (acc : ByteArray), (∀ h, h ∈ hs → h.tn) → (signH acc hs).size ≤ acc.size + 1049627 * hs.length
 | [], acc, _ => by simp [signH]
 | h :: hs, acc, ht => by
  have ih := signH_size hs (signN (signH1 acc h) h.names.l) fun u hu => ht u (List.mem_cons_of_mem _ hu)
  have h1 := ht h List.mem_cons_self
  have h2 := signH1_size (acc := acc) h1
  have h3 := signN_size h.names.l (signH1 acc h) h1.each
  have h4 := h1.names
  have e2 : signH acc (h :: hs) = signH (signN (signH1 acc h) h.names.l) hs := rfl
  rw [e2, List.length_cons]
  omega
theorem take_len {α : Type} {l : List α} {i : Nat} : (l.take i).length ≤ l.length := by rw [List.length_take]; omega
theorem sign_v {D : List Int} {s : StateP} (hs : s.tn) (j : Nat) : (signV D (boolB s.plus) (s.vars.l.take j)).size ≤ 22533 := by
 have := signV_size (D := D) (s.vars.l.take j) (boolB s.plus) fun v hv => hs.rng v (List.mem_of_mem_take hv)
 have := bool_size s.plus
 have := hs.vars
 have := take_len (l := s.vars.l) (i := j)
 omega
theorem sign_v' {D : List Int} {s : StateP} (hs : s.tn) : (signV D (boolB s.plus) s.vars.l).size ≤ 22533 := by
 have := sign_v (D := D) hs s.vars.l.length
 rwa [List.take_length] at this
theorem sign_h {D : List Int} {s : StateP} (hs : s.tn) (i : Nat) : (signH (signV D (boolB s.plus) s.vars.l) (s.heads.l.take i)).size ≤ 1074840581 := by
 have := signH_size (s.heads.l.take i) (signV D (boolB s.plus) s.vars.l) fun v hv => hs.each v (List.mem_of_mem_take hv)
 have := sign_v' (D := D) hs
 have := hs.heads
 have := take_len (l := s.heads.l) (i := i)
 omega
theorem sign_all {D : List Int} {s : StateP} (hs : s.tn) : (signB D s).size ≤ 1074840581 := by
 have := sign_h (D := D) hs s.heads.l.length
 rwa [List.take_length] at this
theorem sign_n {D : List Int} {s : StateP} (hs : s.tn) {i : Nat} {h : Head} (ht : h.tn) (k : Nat) : (signN (signH1 (signH (signV D (boolB s.plus) s.vars.l) (s.heads.l.take i)) h) (h.names.l.take k)).size ≤ 1076000000 := by
 have := signN_size (h.names.l.take k) (signH1 (signH (signV D (boolB s.plus) s.vars.l) (s.heads.l.take i)) h) fun v hv => ht.each v (List.mem_of_mem_take hv)
 have := signH1_size (acc := signH (signV D (boolB s.plus) s.vars.l) (s.heads.l.take i)) ht
 have := sign_h (D := D) hs i
 have := ht.names
 have := take_len (l := h.names.l) (i := k)
 omega
theorem boolS_ok (b : Bool) : Pure En 100 [.p (.bool b)] (.p (.str (boolB b))) := by
 cases b
 ·exact pure_quiet mixed (n := 100) fun g => by kernel_rfl
 ·exact pure_quiet mixed (n := 100) fun g => by kernel_rfl
end Go.Vm
set_option linter.unusedVariables false
namespace Go.Vm
open Go Go.Proofs
attribute [local irreducible] wpL
set_option maxRecDepth 20000 in
theorem sign_ok {g0 : G} {id c : Nat} {D : List Int} (hid : g0.objs[id]? = some (.map (esI D) c)) (s : StateP) (hs : s.tn) : CallsAt En g0 69 [.agg (s.enc.map .p), .map id] (.p (.str (signB D s))) g0 := by
 refine at_walk [(0, .agg (s.enc.map .p)), (1, .map id)] Tryz.func69 rfl rfl rfl fun g hgo hgt hwo hwt => ?_
 show Wc En _ (Tryz.f69.body.getD .skip) [] (Sx 63 _ _ _ _ _ _)
 unfold Tryz.f69
 simp only [Option.getD_some]
 refine wc_seq (wc_reg fun K hK => ?_)
 refine x_box rfl rfl rfl rfl rfl ?_
 refine x_assign rfl rfl rfl ?_
 refine x_nil (hK _ (go_seq (wc_seq (wc_reg fun K hK => ?_))))
 refine x_fa rfl rfl rfl fld34_0 rfl ?_
 refine x_ldL rfl rfl rfl isag4 rfl rfl ?_
 refine x_call rfl rfl rfl (by repeat (first | exact ho_nil | refine ho_cons (by first | rfl | exact rd_ho (by assumption)) ?_)) okf100 (boolS_ok _ _) ?_
 refine x_assign rfl rfl rfl ?_
 refine x_nil (hK _ (go_seq (wc_seq (wc_seq (wc_reg fun K hK => ?_)))))
 refine x_fa rfl rfl rfl fld34_2 rfl ?_
 refine x_ldL rfl rfl rfl isag27 rfl rfl ?_
 refine x_len rfl rfl rfl (by first | assumption | exact Rd.enc) und27 ?_
 refine x_move rfl rfl rfl ?_
 refine x_nil (hK _ (go_seq (wc_block ?_)))
 refine xc_loop [(1, _), (2, _), (16, _), (17, _)] [(2, _)] (fun j : Nat => [(5, .p (.str (signV D (boolB s.plus) (s.vars.l.take j)))), (18, .p (.int .i64 j))]) (fun j : Nat => j ≤ s.vars.l.length) (fun j : Nat => s.vars.l.length - j) 0 (by repeat first | exact trivial | refine .intro rfl ?_) (by repeat first | exact trivial | refine .intro rfl ?_) (Nat.zero_le _) ?_
 rintro j R0 hR1_0 hR2_0 hj b rb
 refine wc_seq (wc_reg fun K hK => ?_)
 refine x_bin rfl rfl rfl rfl rfl ?_
 refine x_nil (hK _ (go_seq (wc_seq ?_)))
 refine xc_cond _ rfl (fun hc0 => ?_) (fun hc0 => ?_)
 ·have hlt : j < s.vars.l.length := by simpa using hc0
  obtain ⟨v, ev⟩ : ∃ v, s.vars.l[j]? = some v := ⟨_, List.getElem?_eq_getElem hlt⟩
  have hmv : v ∈ s.vars.l := List.mem_of_getElem? ev
  have hvl := hs.vars
  have hz1 := sign_v (D := D) hs j
  have hz2 := itoa_size (hs.rng v hmv).1 (hs.rng v hmv).2
  have hz3 : signV D (boolB s.plus) (s.vars.l.take (j + 1)) = if v ∈ D then signV D (boolB s.plus) (s.vars.l.take j) else signV D (boolB s.plus) (s.vars.l.take j) ++ (spB ++ itoaB v) := foldl_succ ev
  refine wc_skip (go_seq (wc_seq (wc_block (wc_seq (wc_reg fun K hK => ?_)))))
  refine x_ia rfl rfl rfl (by first | assumption | exact Rd.enc) rfl und27 sz3 rfl (by assumption) rfl ?_
  refine x_ldR rfl rfl rfl isag3 rfl ?_
  refine x_assign rfl rfl rfl ?_
  refine x_nil (hK _ (go_seq (wc_seq (wc_reg fun K hK => ?_))))
  refine x_move rfl rfl rfl ?_
  refine x_move rfl rfl rfl ?_
  refine x_lookupO rfl rfl rfl rfl (by rw [hgo]; exact hid) und71 und3 zv4 rfl (esI_ok _) (findI _ _) ?_
  refine x_not rfl rfl rfl ?_
  refine x_nil (hK _ (go_seq ?_))
  refine xc_cond _ rfl (fun hc1 => ?_) (fun hc1 => ?_)
  ·refine wc_reg fun K hK => ?_
   refine x_move rfl rfl rfl ?_
   refine x_move rfl rfl rfl ?_
   refine x_call rfl rfl rfl (by repeat (first | exact ho_nil | refine ho_cons (by first | rfl | exact rd_ho (by assumption)) ?_)) okf70 (itoa_pure (hs.rng v hmv).1 (hs.rng v hmv).2 _) ?_
   refine x_addS rfl rfl rfl rfl (by show 1 + (itoaB v).size < _; omega) ?_
   refine x_addS rfl rfl rfl rfl (by rw [ByteArray.size_append]; show _ + (1 + (itoaB v).size) < _; omega) ?_
   refine x_assign rfl rfl rfl ?_
   refine x_nil (hK _ (go_blk (go_seq (wc_reg fun K hK => ?_))))
   refine x_inc rfl rfl rfl rfl (by omega) ?_
   refine x_move rfl rfl rfl ?_
   refine x_nil (hK _ ?_); clear hK K
   exact hR1_0 (j + 1) _ _ _ _ hlt (by omega) (by repeat (first | exact trivial | refine And.intro rfl ?_ | refine And.intro (by rw [hz3, if_neg (by simpa using hc1)]; rfl) ?_)) (by repeat first | exact trivial | refine .intro rfl ?_)
  ·refine wc_skip (go_blk (go_seq (wc_reg fun K hK => ?_)))
   refine x_inc rfl rfl rfl rfl (by omega) ?_
   refine x_move rfl rfl rfl ?_
   refine x_nil (hK _ ?_); clear hK K
   exact hR1_0 (j + 1) _ _ _ _ hlt (by omega) (by repeat (first | exact trivial | refine And.intro rfl ?_ | refine And.intro (by rw [hz3, if_pos (by simpa using hc1)]; rfl) ?_)) (by repeat first | exact trivial | refine .intro rfl ?_)
 ·rw [show signV D (boolB s.plus) (s.vars.l.take j) = signV D (boolB s.plus) s.vars.l from by rw [List.take_of_length_le (by simp at hc0; omega)]]
  refine wc_exit ?_
  refine go_seq_exit ?_
  refine hR2_0 _ _ (by simp) ?_
  refine go_blk_exit (go_seq (wc_seq (wc_seq (wc_reg fun K hK => ?_))))
  refine x_fa rfl rfl rfl fld34_1 rfl ?_
  refine x_ldL rfl rfl rfl isag32 rfl rfl ?_
  refine x_len rfl rfl rfl (by first | assumption | exact Rd.enc) und32 ?_
  refine x_move rfl rfl rfl ?_
  refine x_nil (hK _ (go_seq (wc_block ?_)))
  refine xc_loop [(1, _), (2, _), (16, _), (17, _), (18, _), (33, _), (34, _)] [(2, _)] (fun i : Nat => [(5, .p (.str (signH (signV D (boolB s.plus) s.vars.l) (s.heads.l.take i)))), (35, .p (.int .i64 i))]) (fun i : Nat => i ≤ s.heads.l.length) (fun i : Nat => s.heads.l.length - i) 0 (by repeat first | exact trivial | refine .intro rfl ?_) (by repeat first | exact trivial | refine .intro rfl ?_) (Nat.zero_le _) ?_
  rintro i R1 hR1_1 hR2_1 hi b rb
  refine wc_seq (wc_reg fun K hK => ?_)
  refine x_bin rfl rfl rfl rfl rfl ?_
  refine x_nil (hK _ (go_seq (wc_seq ?_)))
  refine xc_cond _ rfl (fun hc2 => ?_) (fun hc2 => ?_)
  ·have hlt2 : i < s.heads.l.length := by simpa using hc2
   obtain ⟨h, eh⟩ : ∃ h, s.heads.l[i]? = some h := ⟨_, List.getElem?_eq_getElem hlt2⟩
   have hht := hs.each h (List.mem_of_getElem? eh)
   have hhl := hs.heads
   have hnl := hht.names
   have hz4 := sign_h (D := D) hs i
   have hz5 := itoa_size hht.lo hht.hi
   have hz6 := bool_size h.op
   have hz7 : signH (signV D (boolB s.plus) s.vars.l) (s.heads.l.take (i + 1)) = signN (signH1 (signH (signV D (boolB s.plus) s.vars.l) (s.heads.l.take i)) h) h.names.l := foldl_succ eh
   refine wc_skip (go_seq (wc_seq (wc_block (wc_seq (wc_reg fun K hK => ?_)))))
   refine x_ia rfl rfl rfl (by first | assumption | exact Rd.enc) rfl und32 sz37 rfl (by assumption) rfl ?_
   refine x_ldRA rfl rfl rfl isag37 sz37 rfl ?_
   refine x_alloc rfl rfl rfl zero37 rfl ?_
   refine x_stL rfl rfl rfl sz37 rfl rfl rfl rfl ?_
   refine x_nil (hK _ (go_seq (wc_seq ?_)))
   refine xc_drw [0, 1, 2, 3, 4, 5, 6, 7, 8, 9, 10] mixed (by kernel_rfl) fun K hK => ?_
   refine x_move rfl rfl rfl ?_
   refine x_fa rfl rfl rfl fld37_0 rfl ?_
   refine x_ldL rfl rfl rfl isag3 rfl rfl ?_
   refine x_call rfl rfl rfl (by repeat (first | exact ho_nil | refine ho_cons (by first | rfl | exact rd_ho (by assumption)) ?_)) okf70 (itoa_pure hht.lo hht.hi _) ?_
   refine x_addS rfl rfl rfl rfl (by show 1 + (itoaB h.kind).size < _; omega) ?_
   refine x_fa rfl rfl rfl fld37_3 rfl ?_
   refine x_ldL rfl rfl rfl isag4 rfl rfl ?_
   refine x_call rfl rfl rfl (by repeat (first | exact ho_nil | refine ho_cons (by first | rfl | exact rd_ho (by assumption)) ?_)) okf100 (boolS_ok _ _) ?_
   refine x_addS rfl rfl rfl rfl (by rw [ByteArray.size_append]; show 1 + (itoaB h.kind).size + _ < _; omega) ?_
   refine x_addS rfl rfl rfl rfl (by rw [ByteArray.size_append, ByteArray.size_append]; show _ + (1 + (itoaB h.kind).size + _) < _; omega) ?_
   refine x_assign rfl rfl rfl ?_
   refine x_nil (hK _ (go_seq (wc_seq (wc_reg fun K hK => ?_))))
   refine x_fa rfl rfl rfl fld37_1 rfl ?_
   refine x_ldL rfl rfl rfl isag35 rfl rfl ?_
   refine x_len rfl rfl rfl (by first | assumption | exact Rd.enc) und35 ?_
   refine x_move rfl rfl rfl ?_
   refine x_nil (hK _ (go_seq (wc_block ?_)))
   refine xc_loop [(1, _), (2, _), (16, _), (17, _), (18, _), (33, _), (34, _), (35, _), (50, _), (51, _)] [(2, _)] (fun k : Nat => [(5, .p (.str (signN (signH1 (signH (signV D (boolB s.plus) s.vars.l) (s.heads.l.take i)) h) (h.names.l.take k)))), (52, .p (.int .i64 k))]) (fun k : Nat => k ≤ h.names.l.length) (fun k : Nat => h.names.l.length - k) 0 (by repeat first | exact trivial | refine .intro rfl ?_) (by repeat first | exact trivial | refine .intro rfl ?_) (Nat.zero_le _) ?_
   rintro k R2 hR1_2 hR2_2 hk b rb
   refine wc_seq (wc_reg fun K hK => ?_)
   refine x_bin rfl rfl rfl rfl rfl ?_
   refine x_nil (hK _ (go_seq (wc_seq ?_)))
   refine xc_cond _ rfl (fun hc3 => ?_) (fun hc3 => ?_)
   ·have hlt3 : k < h.names.l.length := by simpa using hc3
    obtain ⟨n, en⟩ : ∃ n, h.names.l[k]? = some n := ⟨_, List.getElem?_eq_getElem hlt3⟩
    have hnn := hht.each n (List.mem_of_getElem? en)
    have hz8 := sign_n (D := D) hs (i := i) hht k
    have hz9 : signN (signH1 (signH (signV D (boolB s.plus) s.vars.l) (s.heads.l.take i)) h) (h.names.l.take (k + 1)) = signN (signH1 (signH (signV D (boolB s.plus) s.vars.l) (s.heads.l.take i)) h) (h.names.l.take k) ++ (commaB ++ n) := foldl_succ en
    refine wc_skip (go_seq (wc_seq (wc_block (wc_seq (wc_reg fun K hK => ?_)))))
    refine x_ia rfl rfl rfl (by first | assumption | exact Rd.enc) rfl und35 sz9 rfl (by assumption) rfl ?_
    refine x_ldR rfl rfl rfl isag9 rfl ?_
    refine x_assign rfl rfl rfl ?_
    refine x_nil (hK _ (go_seq (wc_reg fun K hK => ?_)))
    refine x_move rfl rfl rfl ?_
    refine x_move rfl rfl rfl ?_
    refine x_addS rfl rfl rfl rfl (by show 1 + n.size < _; omega) ?_
    refine x_addS rfl rfl rfl rfl (by rw [ByteArray.size_append]; show _ + (1 + n.size) < _; omega) ?_
    refine x_assign rfl rfl rfl ?_
    refine x_nil (hK _ (go_blk (go_seq (wc_reg fun K hK => ?_))))
    refine x_inc rfl rfl rfl rfl (by omega) ?_
    refine x_move rfl rfl rfl ?_
    refine x_nil (hK _ ?_); clear hK K
    exact hR1_2 (k + 1) _ _ _ _ hlt3 (by omega) (by repeat (first | exact trivial | refine And.intro rfl ?_ | refine And.intro (by rw [hz9]; rfl) ?_)) (by repeat first | exact trivial | refine .intro rfl ?_)
   ·have hk3 : h.names.l.take k = h.names.l := List.take_of_length_le (by simp at hc3; omega)
    refine wc_exit ?_
    refine go_seq_exit ?_
    refine hR2_2 _ _ (by simp) ?_
    refine go_blk_exit (go_blk (go_seq (wc_reg fun K hK => ?_)))
    refine x_inc rfl rfl rfl rfl (by omega) ?_
    refine x_move rfl rfl rfl ?_
    refine x_nil (hK _ ?_); clear hK K
    exact hR1_1 (i + 1) _ _ _ _ hlt2 (by omega) (by repeat (first | exact trivial | refine And.intro rfl ?_ | refine And.intro (by rw [hz7, hk3]; rfl) ?_)) (by repeat first | exact trivial | refine .intro rfl ?_)
  ·refine wc_exit ?_
   refine go_seq_exit ?_
   refine hR2_1 _ _ (by simp) ?_
   refine go_blk_exit (go_seq (wc_seq (wc_reg fun K hK => ?_)))
   refine x_move rfl rfl rfl ?_
   refine x_assign rfl rfl rfl ?_
   refine x_nil (hK _ (go_seq (wc_ret ?_)))
   exact x_end1 (Or.inr rfl) rfl rfl rfl rfl rfl rfl (by rw [List.take_of_length_le (by simp at hc2; omega)]; rfl)
end Go.Vm
set_option linter.unusedVariables false
namespace Go.Vm
open Go Go.Proofs
def valD (l : List UInt8) : Nat := l.foldl (fun a c => a * 10 + (c.toNat - 48)) 0
theorem dig_nat {d : Nat} (h : d < 10) : (UInt8.ofNat (48 + d)).toNat = 48 + d := by
 have : 48 + d < 256 := by omega
 simp [UInt8.toNat_ofNat', Nat.mod_eq_of_lt this]
theorem valD_dec : ∀ u : Nat, valD (Lib.decDigits u) = u := by
 intro u
 induction u using Nat.strongRecOn with
 | _ u ih =>
  by_cases h : u < 10
  ·rw [Lib.decDigits, dif_pos h]
   simp only [valD, List.foldl_cons, List.foldl_nil, dig_nat h]
   omega
  ·rw [Lib.decDigits, dif_neg h]
   unfold valD at ih ⊢
   rw [List.foldl_append, ih (u / 10) (by omega)]
   simp only [List.foldl_cons, List.foldl_nil, dig_nat (Nat.mod_lt u (by omega))]
   omega
theorem dec_no58 : ∀ (u : Nat) (c : UInt8), c ∈ Lib.decDigits u → c ≠ 58 := by
 intro u
 induction u using Nat.strongRecOn with
 | _ u ih =>
  intro c hc e
  have key : ∀ d, d < 10 → c = UInt8.ofNat (48 + d) → False := by
   intro d hd hcd
   have := congrArg UInt8.toNat hcd
   rw [dig_nat hd, e] at this
   have h58 : (58 : UInt8).toNat = 58 := rfl
   omega
  by_cases h : u < 10
  ·rw [Lib.decDigits, dif_pos h] at hc
   exact key u h (by simpa using hc)
  ·rw [Lib.decDigits, dif_neg h] at hc
   rcases List.mem_append.1 hc with hc | hc
   ·exact ih (u / 10) (by omega) c hc e
   ·exact key (u % 10) (Nat.mod_lt u (by omega)) (by simpa using hc)
def colonB : ByteArray := ⟨#[58]⟩
def keyK (cls : List Int) (acc : ByteArray) (ks : List Int) : ByteArray := ks.foldl (fun out k => out ++ (spB ++ itoaB (cls.getD k.toNat 0))) acc
def keyH (cls : List Int) (acc : ByteArray) (hs : List Head) : ByteArray := hs.foldl (fun out h => keyK cls out h.kids.l) acc
def keyA (cls : List Int) (base : List ByteArray) (i : Nat) : ByteArray := (itoaB (cls.getD i 0) ++ colonB) ++ base.getD i default
def keyB (cls : List Int) (base : List ByteArray) (i : Nat) (s : StateP) : ByteArray := keyH cls (keyA cls base i) s.heads.l
theorem keyK_pre (cls : List Int) : ∀ (ks : List Int) (acc : ByteArray), ∃ r, keyK cls acc ks = acc ++ r
 | [], acc => ⟨ByteArray.empty, by simp [keyK]⟩
 | k :: ks, acc => by
  obtain ⟨r, hr⟩ := keyK_pre cls ks (acc ++ (spB ++ itoaB (cls.getD k.toNat 0)))
  exact ⟨_, (show keyK cls acc (k :: ks) = keyK cls (acc ++ (spB ++ itoaB (cls.getD k.toNat 0))) ks from rfl).trans (hr.trans (ByteArray.append_assoc))⟩
theorem keyH_pre (cls : List Int) : ∀ (hs : List Head) (acc : ByteArray), ∃ r, keyH cls acc hs = acc ++ r
 | [], acc => ⟨ByteArray.empty, by simp [keyH]⟩
 | h :: hs, acc => by
  obtain ⟨r1, h1⟩ := keyK_pre cls h.kids.l acc
  obtain ⟨r, hr⟩ := keyH_pre cls hs (keyK cls acc h.kids.l)
  refine ⟨r1 ++ r, (show keyH cls acc (h :: hs) = keyH cls (keyK cls acc h.kids.l) hs from rfl).trans (hr.trans ?_)⟩
  rw [h1, ByteArray.append_assoc]
def headOf (b : ByteArray) : List UInt8 := b.data.toList.takeWhile fun c => c != 58
theorem headOf_key {cls : List Int} {base : List ByteArray} {i : Nat} {s : StateP} (h0 : 0 ≤ cls.getD i 0) : valD (headOf (keyB cls base i s)) = (cls.getD i 0).toNat := by
 obtain ⟨r, hr⟩ := keyH_pre cls s.heads.l (keyA cls base i)
 have e : (keyB cls base i s).data.toList = Lib.decDigits (cls.getD i 0).toNat ++ 58 :: ((base.getD i default).data.toList ++ r.data.toList) := by
  unfold keyB
  rw [hr]
  unfold keyA itoaB
  have hn : Lib.itoa (cls.getD i 0) = Lib.decDigits (cls.getD i 0).toNat := by
   obtain ⟨u, hu⟩ : ∃ u : Nat, cls.getD i 0 = u := ⟨_, (Int.toNat_of_nonneg h0).symm⟩
   rw [hu, Lib.itoa_nonneg]; simp
  rw [hn]
  simp [colonB]
 unfold headOf
 rw [e, List.takeWhile_append_of_pos (fun c hc => by have := dec_no58 _ c hc; simpa using this)]
 simp [valD_dec]
def idxA (l : List ByteArray) (k : ByteArray) : Nat := match l with
 | [] => 0
 | x :: l => if k = x then 0 else idxA l k + 1
theorem idxA_lt {l : List ByteArray} {k : ByteArray} (h : k ∈ l) : idxA l k < l.length := by
 induction l with
 | nil => simp at h
 | cons x l ih =>
  unfold idxA
  by_cases hx : k = x
  ·rw [if_pos hx]; simp
  ·rw [if_neg hx]
   have := ih (by simpa [hx] using h)
   simp; omega
theorem idxA_new {l : List ByteArray} {k : ByteArray} (h : k ∉ l) : idxA (l ++ [k]) k = l.length := by
 induction l with
 | nil => simp [idxA]
 | cons y l ih =>
  simp only [List.cons_append, idxA]
  have hx : k ≠ y := fun e => h (by simp [e])
  rw [if_neg hx, ih (by simpa [hx] using h)]
  simp
def seenAdd (sn : List ByteArray) (k : ByteArray) : List ByteArray := if k ∈ sn then sn else sn ++ [k]
def rndK (ks : List ByteArray) : List ByteArray × List Int := ks.foldl (fun p k => (seenAdd p.1 k, p.2 ++ [((idxA (seenAdd p.1 k) k : Nat) : Int)])) ([], [])
def keysOf (cls : List Int) (base : List ByteArray) (L : List StateP) : List ByteArray := L.zipIdx.map fun x => keyB cls base x.2 x.1
def classF (base : List ByteArray) (L : List StateP) : Nat → List Int → Nat → List Int
 | 0, cls, _ => cls
 | m + 1, cls, cnt => if (rndK (keysOf cls base L)).1.length = cnt then (rndK (keysOf cls base L)).2 else classF base L m (rndK (keysOf cls base L)).2 (rndK (keysOf cls base L)).1.length
noncomputable def classL (L : List StateP) (root : Int) : List Int := classF (L.map (signB (idleD (idleB L root) L))) L (L.length + 1) (List.replicate L.length 0) 0
structure RndOk (ks sn : List ByteArray) (nx : List Int) : Prop where
 len : nx.length = ks.length
 nodup : sn.Nodup
 sub : ∀ k, k ∈ ks ↔ k ∈ sn
 rng : ∀ c, c ∈ nx → 0 ≤ c ∧ c < sn.length
 all : ∀ c, c < sn.length → (c : Int) ∈ nx
 le : sn.length ≤ ks.length
theorem RndOk.step {ks sn : List ByteArray} {nx : List Int} (h : RndOk ks sn nx) (k : ByteArray) : RndOk (ks ++ [k]) (seenAdd sn k) (nx ++ [((idxA (seenAdd sn k) k : Nat) : Int)]) := by
 unfold seenAdd
 by_cases hk : k ∈ sn
 ·rw [if_pos hk]
  have hlt := idxA_lt hk
  refine ⟨by simp [h.len], h.nodup, fun q => ?_, fun c hc => ?_, fun c hc => List.mem_append_left _ (h.all c hc), by have := h.le; simp; omega⟩
  ·rw [List.mem_append, h.sub]
   simp only [List.mem_singleton]
   exact ⟨fun e => e.elim id fun e => by rw [e]; exact hk, Or.inl⟩
  ·rcases List.mem_append.1 hc with hc | hc
   ·exact h.rng c hc
   ·simp only [List.mem_singleton] at hc; subst hc; omega
 ·rw [if_neg hk, idxA_new hk]
  refine ⟨by simp [h.len], ?_, fun q => ?_, fun c hc => ?_, fun c hc => ?_, by have := h.le; simp; omega⟩
  ·rw [List.nodup_append]
   refine ⟨h.nodup, by simp, fun a ha b hb => ?_⟩
   simp only [List.mem_singleton] at hb
   subst hb; rintro rfl; exact hk ha
  ·rw [List.mem_append, List.mem_append, h.sub]
  ·rcases List.mem_append.1 hc with hc | hc
   ·have := h.rng c hc; simp; omega
   ·simp only [List.mem_singleton] at hc; subst hc; simp only [List.length_append, List.length_singleton]; omega
  ·simp only [List.length_append, List.length_singleton] at hc
   by_cases hc2 : c < sn.length
   ·exact List.mem_append_left _ (h.all c hc2)
   ·have : c = sn.length := by omega
    subst this; simp
theorem rnd_ok (ks : List ByteArray) : RndOk ks (rndK ks).1 (rndK ks).2 := by
 have key : ∀ i, i ≤ ks.length → RndOk (ks.take i) ((ks.take i).foldl (fun p k => (seenAdd p.1 k, p.2 ++ [((idxA (seenAdd p.1 k) k : Nat) : Int)])) ([], [])).1 ((ks.take i).foldl (fun p k => (seenAdd p.1 k, p.2 ++ [((idxA (seenAdd p.1 k) k : Nat) : Int)])) (([] : List ByteArray), ([] : List Int))).2 := by
  intro i
  induction i with
  | zero => intro _; exact ⟨rfl, List.nodup_nil, fun k => by simp, fun c hc => by simp at hc, fun c hc => by simp at hc, Nat.le_refl _⟩
  | succ i ih =>
   intro hi
   have e : ks[i]? = some ks[i] := List.getElem?_eq_getElem (by omega)
   rw [foldl_succ e, List.take_succ_eq_append_getElem (by omega)]
   exact (ih (by omega)).step _
 have := key ks.length (Nat.le_refl _)
 rw [List.take_length] at this
 exact this
theorem keysOf_len {cls : List Int} {base : List ByteArray} {L : List StateP} : (keysOf cls base L).length = L.length := by simp [keysOf]
theorem keysOf_at {cls : List Int} {base : List ByteArray} {L : List StateP} {i : Nat} {s : StateP} (e : L[i]? = some s) : (keysOf cls base L)[i]? = some (keyB cls base i s) := by
 simp [keysOf, List.getElem?_map, List.getElem?_zipIdx, e]
structure ClsOk (n : Nat) (cls : List Int) (cnt : Nat) : Prop where
 len : cls.length = n
 rng : ∀ c, c ∈ cls → 0 ≤ c ∧ c ≤ n
 all : ∀ c, c < cnt → (c : Int) ∈ cls
 le : cnt ≤ n
theorem ClsOk.start {n : Nat} : ClsOk n (List.replicate n 0) 0 := ⟨by simp, fun c hc => by have := (List.mem_replicate.1 hc).2; omega, fun c hc => absurd hc (Nat.not_lt_zero _), Nat.zero_le _⟩
theorem ClsOk.at_ {n : Nat} {cls : List Int} {cnt : Nat} (h : ClsOk n cls cnt) {i : Nat} : 0 ≤ cls.getD i 0 ∧ cls.getD i 0 ≤ n := by
 rw [List.getD_eq_getElem?_getD]
 cases e : cls[i]? with
 | none => simp
 | some c => exact h.rng c (List.mem_of_getElem? e)
theorem ClsOk.next {cls : List Int} {base : List ByteArray} {L : List StateP} {cnt : Nat} (h : ClsOk L.length cls cnt) : ClsOk L.length (rndK (keysOf cls base L)).2 (rndK (keysOf cls base L)).1.length := by
 have r := rnd_ok (keysOf cls base L)
 have e := keysOf_len (cls := cls) (base := base) (L := L)
 exact ⟨r.len.trans e, fun c hc => by have := r.rng c hc; have := r.le; omega, r.all, by have := r.le; omega⟩
theorem ClsOk.up {cls : List Int} {base : List ByteArray} {L : List StateP} {cnt : Nat} (h : ClsOk L.length cls cnt) : cnt ≤ (rndK (keysOf cls base L)).1.length := by
 have r := rnd_ok (keysOf cls base L)
 have key : ∀ c, c < cnt → ∃ k, k ∈ (rndK (keysOf cls base L)).1 ∧ valD (headOf k) = c := by
  intro c hc
  obtain ⟨i, hi⟩ := List.mem_iff_getElem?.1 (h.all c hc)
  have hl := (List.getElem?_eq_some_iff.1 hi).1
  rw [h.len] at hl
  have es : L[i]? = some L[i] := List.getElem?_eq_getElem hl
  refine ⟨keyB cls base i L[i], (r.sub _).1 (List.mem_of_getElem? (keysOf_at es)), ?_⟩
  rw [headOf_key h.at_.1, List.getD_eq_getElem?_getD, hi]
  simp
 have hsub : ∀ x, x ∈ List.range cnt → x ∈ (rndK (keysOf cls base L)).1.map fun k => valD (headOf k) := by
  intro x hx
  obtain ⟨k, h1, h2⟩ := key x (List.mem_range.1 hx)
  exact List.mem_map.2 ⟨k, h1, h2⟩
 have := (List.nodup_range (n := cnt)).length_le_of_subset hsub
 simpa using this
theorem classF_go {base : List ByteArray} {L : List StateP} {m : Nat} {cls : List Int} {cnt : Nat} (h : (rndK (keysOf cls base L)).1.length ≠ cnt) : classF base L (m + 1) cls cnt = classF base L m (rndK (keysOf cls base L)).2 (rndK (keysOf cls base L)).1.length := by
 show (if _ then _ else _) = _
 rw [if_neg h]
theorem classF_end {base : List ByteArray} {L : List StateP} {m : Nat} {cls : List Int} {cnt : Nat} (h : (rndK (keysOf cls base L)).1.length = cnt) : classF base L (m + 1) cls cnt = (rndK (keysOf cls base L)).2 := by
 show (if _ then _ else _) = _
 rw [if_pos h]
theorem keyK_size {n : Nat} {cls : List Int} {cnt : Nat} (hc : ClsOk n cls cnt) (hn : n ≤ 4096) : ∀ (ks : List Int) (acc : ByteArray), (keyK cls acc ks).size ≤ acc.size + 22 * ks.length
 | [], acc => by simp [keyK]
 | k :: ks, acc => by
  have ih := keyK_size hc hn ks (acc ++ (spB ++ itoaB (cls.getD k.toNat 0)))
  have h1 := hc.at_ (i := k.toNat)
  have h2 := itoa_size (n := cls.getD k.toNat 0) (by omega) (by omega)
  have : spB.size = 1 := rfl
  have e2 : keyK cls acc (k :: ks) = keyK cls (acc ++ (spB ++ itoaB (cls.getD k.toNat 0))) ks := rfl
  rw [e2, List.length_cons]
  simp only [ByteArray.size_append] at ih
  omega
theorem keyH_size {n : Nat} {cls : List Int} {cnt : Nat} (hc : ClsOk n cls cnt) (hn : n ≤ 4096) : ∀ (hs : List Head) (acc : ByteArray), (∀ h, h ∈ hs → h.tn) → (keyH cls acc hs).size ≤ acc.size + 22528 * hs.length
 | [], acc, _ => by simp [keyH]
 | h :: hs, acc, ht => by
  have ih := keyH_size hc hn hs (keyK cls acc h.kids.l) fun u hu => ht u (List.mem_cons_of_mem _ hu)
  have h1 := keyK_size hc hn h.kids.l acc
  have h2 := (ht h List.mem_cons_self).kids
  have e2 : keyH cls acc (h :: hs) = keyH cls (keyK cls acc h.kids.l) hs := rfl
  rw [e2, List.length_cons]
  omega
end Go.Vm
set_option linter.unusedVariables false
namespace Go.Vm
open Go Go.Proofs
section
variable {E : Env} {qt : Bool} {ops : Array Oper} {l : List Oper} {K : St → Prop}
variable {nt : Nat} {esc : Nat → Bool} {g : G} {os : List Ob} {ts : List Nat}
variable {d : Nat} {ty : TypeId} {pos : String} {after : Array Edge} {gd : Option (Nat × Bool)}
variable {b : Nat → V} {L : List (Nat × V)} {rb : Nat → Option (Nat × List V)} {R : List (Nat × (Nat × List V))}
theorem x_lenM {t kt et : TypeId} {y : Operand} {i c n : Nat} {es : List (PV × V × Nat)} (h : wX ops nt L gd = some true) (hd : Nat.blt d nt = true) (hx : evX E L y = some (.map (g.objs.length + i))) (hu : E.P.underlying t = some (.map kt et)) (ho : os[i]? = some (.map es c)) (hn : es.length = n)
  (k : wpL E qt ops l (Sx nt b ((d, .p (.int .i64 n)) :: L) rb R esc (g.ext os ts)) K) : wpL E qt ops (⟨some d, .call { callee := .builtin .len, args := #[y], argTypes := #[t] }, ty, pos, after, gd⟩ :: l) (Sx nt b L rb R esc (g.ext os ts)) K := by
 refine x_op (s1 := Sx nt b L rb R esc g) h hd rfl ?_ k
 have hgm : (Sx nt b L rb R esc (g.ext os ts)).g.objs[g.objs.length + i]? = some (.map es c) := by simp only [Sx, ext_obj, ho]
 have hargs : evL E (Sx nt b L rb R esc (g.ext os ts)) (#[y] : Array Operand).toList = some [.map (g.objs.length + i)] := by
  show evL E _ [y] = _
  simp only [evL, evS hx]
 subst hn
 simp only [stepV]
 rw [hargs]
 simp only [List.getElem?_toArray, List.getElem?_cons_zero, hu, lenOf, hgm]
 rfl
end
def eBy (b : ByteArray) : V := .p (.str b)
theorem zerosI (n : Nat) : (List.replicate n [V.p (.int .i64 0)]).flatten = (List.replicate n (0 : Int)).map eI := by
 induction n with
 | zero => rfl
 | succ n ih => rw [List.replicate_succ, List.flatten_cons, ih, List.replicate_succ, List.map_cons]; rfl
theorem zerosS (n : Nat) : (List.replicate n [V.p (.str ⟨#[]⟩)]).flatten = (List.replicate n (⟨#[]⟩ : ByteArray)).map eBy := by
 induction n with
 | zero => rfl
 | succ n ih => rw [List.replicate_succ, List.flatten_cons, ih, List.replicate_succ, List.map_cons]; rfl
def fillL {α : Type} (z : α) (xs : List α) (n : Nat) : List α := xs ++ List.replicate (n - xs.length) z
theorem fillL_set {α β : Type} {f : α → β} {z x : α} {xs : List α} {n : Nat} (h : xs.length < n) : ((fillL z xs n).map f).set (0 + ((xs.length : Nat) : Int).toNat * 1) (f x) = (fillL z (xs ++ [x]) n).map f := by
 unfold fillL
 obtain ⟨m, hm⟩ : ∃ m, n - xs.length = m + 1 := ⟨n - xs.length - 1, by omega⟩
 rw [hm, show n - (xs ++ [x]).length = m by simp; omega]
 simp only [Int.toNat_natCast, Nat.zero_add, Nat.mul_one, List.map_append, List.replicate_succ, List.map_cons]
 rw [List.set_append_right _ _ (by simp)]
 simp
theorem fillL_all {α : Type} {z : α} {xs : List α} {n : Nat} (h : n ≤ xs.length) : fillL z xs n = xs := by
 unfold fillL
 rw [show n - xs.length = 0 by omega]
 simp
theorem fillL_len {α β : Type} {f : α → β} {z : α} {xs : List α} {n : Nat} (h : xs.length ≤ n) : ((fillL z xs n).map f).length = n := by
 unfold fillL; simp; omega
theorem at_c {α : Type} {os : List α} {a c : α} : (os ++ [a, c])[os.length]? = some a := by simp
theorem at_m {α : Type} {os : List α} {a c z : α} : (os ++ [a, c])[(os ++ [z]).length]? = some c := by simp
theorem at_o {α : Type} {os : List α} {a c x : α} {i : Nat} (h : os[i]? = some x) : (os ++ [a, c])[i]? = some x := by
 rw [List.getElem?_append_left (List.getElem?_eq_some_iff.1 h).1]; exact h
theorem set_c {α : Type} {os : List α} {a c x : α} : (os ++ [a, c]).set os.length x = os ++ [x, c] := by simp
theorem set_m {α : Type} {os : List α} {a c z x : α} : (os ++ [a, c]).set (os ++ [z]).length x = os ++ [a, x] := by simp
def esN (l : List ByteArray) : List (PV × V × Nat) := l.zipIdx.map fun x => (.str x.1, .p (.int .i64 x.2), x.2)
theorem esN_ok (l : List ByteArray) : (esN l).all (fun e => keyOk .string e.1) = true := by
 rw [List.all_eq_true]
 intro e he
 obtain ⟨x, _, rfl⟩ := List.mem_map.1 he
 rfl
theorem esN_len (l : List ByteArray) : (esN l).length = l.length := by simp [esN]
theorem beqB (a b : ByteArray) : (a == b) = decide (a = b) := by
 by_cases h : a = b
 ·subst h; simp
 ·have : (a == b) = false := by simpa using h
  rw [this, decide_eq_false h]
theorem find_esN (l : List ByteArray) (s : ByteArray) : findKey (esN l) (.str s) = if s ∈ l then some (V.p (.int .i64 (idxA l s : Nat))) else none := by
 have key : ∀ (l : List ByteArray) (n : Nat), findKey ((l.zipIdx n).map fun x => ((.str x.1, .p (.int .i64 x.2), x.2) : PV × V × Nat)) (.str s) = if s ∈ l then some (V.p (.int .i64 ((n + idxA l s : Nat) : Int))) else none := by
  intro l
  induction l with
  | nil => intro n; simp [findKey]
  | cons a l ih =>
   intro n
   simp only [List.zipIdx_cons, List.map_cons, findKey, keyEq, List.mem_cons, idxA, beqB]
   by_cases h : s = a
   ·simp [h]
   ·simp only [h, decide_false, Bool.false_eq_true, if_false, false_or]
    rw [ih (n + 1)]
    split <;> simp <;> omega
 have := key l 0
 simpa [esN] using this
theorem findN (l : List ByteArray) (s : ByteArray) : (match findKey (esN l) (.str s) with | some v => (if true then .tup [v, .p (.bool true)] else v) | none => (if true then .tup [V.p (.int .i64 0), .p (.bool false)] else V.p (.int .i64 0))) = V.tup [.p (.int .i64 (if s ∈ l then (idxA l s : Nat) else 0)), .p (.bool (decide (s ∈ l)))] := by
 rw [find_esN]
 by_cases h : s ∈ l <;> simp [h]
theorem seen_put {l : List ByteArray} {s : ByteArray} (h : s ∉ l) : Ob.map (insK (esN l) (.str s) (.p (.int .i64 (l.length : Nat))) l.length) (insC (esN l) (.str s) l.length) = .map (esN (seenAdd l s)) (seenAdd l s).length := by
 unfold insK insC seenAdd
 rw [find_esN, if_neg h, if_neg h]
 simp [esN, List.zipIdx_append]
theorem base_step {g : G} {o1 o2 o3 : Ob} {D : List Int} {L : List StateP} {i : Nat} {s : StateP} (es : L[i]? = some s) (hl : ((L.take i).map (signB D)).length = i) (hi : i < L.length) :
  g.ext [o1, o2, o3, .cells ((fillL (⟨#[]⟩ : ByteArray) ((L.take (i + 1)).map (signB D)) L.length).map eBy)] [] =
  g.ext [o1, o2, o3, .cells (((fillL (⟨#[]⟩ : ByteArray) ((L.take i).map (signB D)) L.length).map eBy).set (0 + ((i : Nat) : Int).toNat * 1) (.p (.str (signB D s))))] [] := by
 have := fillL_set (f := eBy) (z := (⟨#[]⟩ : ByteArray)) (x := signB D s) (xs := (L.take i).map (signB D)) (n := L.length) (by omega)
 rw [hl] at this
 rw [show V.p (.str (signB D s)) = eBy (signB D s) from rfl, this]
 have e : (L.take (i + 1)).map (signB D) = (L.take i).map (signB D) ++ [signB D s] := by
  rw [List.take_succ_eq_append_getElem (by omega), List.map_append, (List.getElem?_eq_some_iff.1 es).2]; rfl
 rw [e]
theorem base_size {L : List StateP} {D : List Int} (ht : ∀ s, s ∈ L → s.tn) (i : Nat) : ((L.map (signB D)).getD i default).size ≤ 1074840581 := by
 rw [List.getD_eq_getElem?_getD, List.getElem?_map]
 cases e : L[i]? with
 | none => exact Nat.zero_le _
 | some s => exact sign_all (ht s (List.mem_of_getElem? e))
theorem getI_at {us : List Int} {i : Nat} (h : i < us.length) : (us.map eI)[0 + ((i : Nat) : Int).toNat * 1]? = some (eI (us.getD i 0)) := by
 simp [List.getElem?_map, List.getElem?_eq_getElem h, List.getD_eq_getElem?_getD]
theorem getI_q {us : List Int} {q : Int} (h : q.toNat < us.length) : (us.map eI)[0 + q.toNat * 1]? = some (eI (us.getD q.toNat 0)) := by
 simp [List.getElem?_map, List.getElem?_eq_getElem h, List.getD_eq_getElem?_getD]
theorem getB_at {us : List ByteArray} {i : Nat} (h : i < us.length) : (us.map eBy)[0 + ((i : Nat) : Int).toNat * 1]? = some (eBy (us.getD i default)) := by
 simp [List.getElem?_map, List.getElem?_eq_getElem h, List.getD_eq_getElem?_getD]
theorem rnd_len {ks : List ByteArray} {i : Nat} (h : i ≤ ks.length) : ((ks.take i).foldl (fun p k => (seenAdd p.1 k, p.2 ++ [((idxA (seenAdd p.1 k) k : Nat) : Int)])) (([] : List ByteArray), ([] : List Int))).2.length = i := by
 have := (rnd_ok (ks.take i)).len
 rw [List.length_take, Nat.min_eq_left h] at this
 exact this
theorem rnd_new {g : G} {os : List Ob} {ks : List ByteArray} {i n : Nat} {kb : ByteArray} {P : List ByteArray × List Int} {z : Ob} {c0 : Ob}
  (hP : P = (ks.take i).foldl (fun p k => (seenAdd p.1 k, p.2 ++ [((idxA (seenAdd p.1 k) k : Nat) : Int)])) (([] : List ByteArray), ([] : List Int))) (hk : ks[i]? = some kb) (hl : P.2.length = i) (hi : i < n) (hn : kb ∉ P.1) :
  g.ext (os ++ [.cells ((fillL (0 : Int) ((ks.take (i + 1)).foldl (fun p k => (seenAdd p.1 k, p.2 ++ [((idxA (seenAdd p.1 k) k : Nat) : Int)])) (([] : List ByteArray), ([] : List Int))).2 n).map eI), .map (esN ((ks.take (i + 1)).foldl (fun p k => (seenAdd p.1 k, p.2 ++ [((idxA (seenAdd p.1 k) k : Nat) : Int)])) (([] : List ByteArray), ([] : List Int))).1) ((ks.take (i + 1)).foldl (fun p k => (seenAdd p.1 k, p.2 ++ [((idxA (seenAdd p.1 k) k : Nat) : Int)])) (([] : List ByteArray), ([] : List Int))).1.length]) [] =
  g.ext ((((os ++ [.cells ((fillL (0 : Int) P.2 n).map eI), c0]).set (os ++ [z]).length (Ob.map (insK (esN P.1) (.str kb) (.p (.int .i64 (P.1.length : Nat))) P.1.length) (insC (esN P.1) (.str kb) P.1.length)))).set os.length (.cells (((fillL (0 : Int) P.2 n).map eI).set (0 + ((i : Nat) : Int).toNat * 1) (.p (.int .i64 (P.1.length : Nat)))))) [] := by
 rw [foldl_succ hk, ← hP, set_m, set_c, seen_put hn]
 have := fillL_set (f := eI) (z := (0 : Int)) (x := (P.1.length : Int)) (xs := P.2) (n := n) (by omega)
 rw [hl] at this
 rw [show V.p (.int .i64 (P.1.length : Nat)) = eI (P.1.length : Nat) from rfl, this]
 simp only [seenAdd, if_neg hn, idxA_new hn]
theorem rnd_old {g : G} {os : List Ob} {ks : List ByteArray} {i n : Nat} {kb : ByteArray} {P : List ByteArray × List Int}
  (hP : P = (ks.take i).foldl (fun p k => (seenAdd p.1 k, p.2 ++ [((idxA (seenAdd p.1 k) k : Nat) : Int)])) (([] : List ByteArray), ([] : List Int))) (hk : ks[i]? = some kb) (hl : P.2.length = i) (hi : i < n) (hn : kb ∈ P.1) :
  g.ext (os ++ [.cells ((fillL (0 : Int) ((ks.take (i + 1)).foldl (fun p k => (seenAdd p.1 k, p.2 ++ [((idxA (seenAdd p.1 k) k : Nat) : Int)])) (([] : List ByteArray), ([] : List Int))).2 n).map eI), .map (esN ((ks.take (i + 1)).foldl (fun p k => (seenAdd p.1 k, p.2 ++ [((idxA (seenAdd p.1 k) k : Nat) : Int)])) (([] : List ByteArray), ([] : List Int))).1) ((ks.take (i + 1)).foldl (fun p k => (seenAdd p.1 k, p.2 ++ [((idxA (seenAdd p.1 k) k : Nat) : Int)])) (([] : List ByteArray), ([] : List Int))).1.length]) [] =
  g.ext ((os ++ [Ob.cells ((fillL (0 : Int) P.2 n).map eI), Ob.map (esN P.1) P.1.length]).set os.length (Ob.cells (((fillL (0 : Int) P.2 n).map eI).set (0 + ((i : Nat) : Int).toNat * 1) (.p (.int .i64 (idxA P.1 kb : Nat)))))) [] := by
 rw [foldl_succ hk, ← hP, set_c]
 have := fillL_set (f := eI) (z := (0 : Int)) (x := ((idxA P.1 kb : Nat) : Int)) (xs := P.2) (n := n) (by omega)
 rw [hl] at this
 rw [show V.p (.int .i64 (idxA P.1 kb : Nat)) = eI (idxA P.1 kb : Nat) from rfl, this]
 simp only [seenAdd, if_pos hn]
end Go.Vm
