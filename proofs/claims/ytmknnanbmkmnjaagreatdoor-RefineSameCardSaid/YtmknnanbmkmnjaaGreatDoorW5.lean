/- Part 5 of the texts that the claim leans on: a judgement on the program over plain values, its soundness, and contracts of functions. -/
import Derived.Test.YtmknnanbmkmnjaaGreatDoorW4
import Derived.Orders
set_option linter.unusedVariables false
set_option linter.unusedSimpArgs false
set_option linter.unusedVariables false
namespace Go.Vm
open Go
theorem call_exec {E : Env} {v0 : Vw} {w0 : World} {g0 : G} {v : Vw} {lc : Nat → Nat → Option Nat} {s : St} {a : Act} {w : World} {o : Oper} (h : Rl E v0 w0 g0 v lc s a w) {f : FuncId} {args : List V} (e : callOf E s o = some (f, args)) : ∃ ys, (execOp a.eval o).run E.P w = .ok (.enter f ys) w ∧ RepArgs v args ys := by
 unfold callOf at e
 split at e
 ·rename_i fx cargs cats ho
  split at e
  ·rename_i f' caps vs hfv hvs
   split at e
   ·rename_i hone
    simp only [Bool.and_eq_true] at hone
    obtain ⟨hone, hok⟩ := hone
    injection e with e
    simp only [Prod.mk.injEq] at e
    obtain ⟨rfl, rfl⟩ := e
    obtain ⟨fn, hf, hb, hng⟩ : ∃ fn, E.P.funcs[f']? = some fn ∧ fn.body.isSome = true ∧ (fn.name == "runtime.NumGoroutine") = false := by
     unfold okFn at hok
     split at hok
     ·rename_i fn hf
      simp only [Bool.and_eq_true, Bool.not_eq_true'] at hok
      exact ⟨fn, hf, hok.1, hok.2⟩
     ·cases hok
    have hbn : fn.body.isNone = false := by cases hq : fn.body <;> simp_all
    obtain ⟨q1, q2⟩ := evL_ok h hvs
    have hF := ev_rep h.W h.F hfv
    have hfn : ∃ ys, a.eval fx = .func (.func f') #[] ys ∧ caps.length = ys.size ∧ ∀ (i : Nat) (x : V) (y : Value), caps[i]? = some x → ys[i]? = some y → RepC v x y := by
     cases hF with
     | a hF => cases hF with | cell hF =>
      generalize hy : a.eval fx = y at hF
      cases hF with | fn c1 c2 => exact ⟨_, rfl, c1, c2⟩
    obtain ⟨cs, hfe, c1, c2⟩ := hfn
    refine ⟨cargs.map a.eval ++ cs, ?_, ?_, ?_⟩
    ·simp only [execOp, ho, resolve, hfe, Deferred.ofValue, Sem.run_bind, Sem.run_pure, Result.andThen_ok, invoke, callFunc, run_program, hf, hng, hbn, Bool.false_eq_true, if_false]
     simp
    ·simp at q1; simp [q1, c1]
    ·intro i x y hx hy
     have hl : vs.length = cargs.size := by simpa using q1
     by_cases hi : i < vs.length
     ·rw [List.getElem?_append_left hi] at hx
      rw [Array.getElem?_append_left (by simp; omega)] at hy
      have hr := q2 i x y hx (by simpa using hy)
      refine hr.toA ?_
      rw [List.all_eq_true] at hone ⊢
      intro c hc
      exact hone c (List.mem_flatMap.2 ⟨x, List.mem_of_getElem? hx, hc⟩)
     ·rw [List.getElem?_append_right (by omega)] at hx
      rw [Array.getElem?_append_right (by simp; omega)] at hy
      simp only [Array.size_map, ← hl] at hy
      exact .cell (c2 _ x y hx hy)
   ·cases e
  ·cases e
 ·cases e
theorem sound {E : Env} (hp : PrimOk E) {j : J} (h : Ev E j) : Sound E j := by
 induction h with
 | @skip s Q h =>
  intro v0 w0 g0 v lc a w B hR
  exact wp_skip ⟨_, s, v, lc, .normal, h, hR⟩
 | @ret s Q h =>
  intro v0 w0 g0 v lc a w B hR
  exact wp_ret ⟨_, s, v, lc, .ret, h, hR⟩
 | @exit s Q id h =>
  intro v0 w0 g0 v lc a w B hR
  exact wp_exit ⟨_, s, v, lc, .exit, h, hR⟩
 | @seq c1 c2 s Q Q1 h1 h2 h3 ih1 ih2 =>
  intro v0 w0 g0 v lc a w B hR
  refine wp_seq (wp_mono (ih1 v0 w0 g0 v lc a w B hR) ?_)
  rintro e a' w' ⟨x, s', v', lc', hx, hq, hR'⟩
  cases hx with
  | normal => exact ih2 s' hq v0 w0 g0 v' lc' a' w' B hR'
  | exit => exact ⟨_, s', v', lc', .exit, h3 _ _ (by simp) hq, hR'⟩
  | ret => exact ⟨_, s', v', lc', .ret, h3 _ _ (by simp) hq, hR'⟩
 | @cond c c1 c2 s Q t he h ih =>
  intro v0 w0 g0 v lc a w B hR
  have hb := RepA.bool_inv (ev_rep hR.W hR.F he)
  exact wp_cond hb (by have := ih v0 w0 g0 v lc a w B hR; cases t <;> exact this)
 | @block id c s Q Q1 h1 h2 h3 h4 ih =>
  intro v0 w0 g0 v lc a w B hR
  refine wp_block (wp_mono (ih v0 w0 g0 v lc a w B hR) ?_)
  rintro e a' w' ⟨x, s', v', lc', hx, hq, hR'⟩
  cases hx with
  | normal => exact ⟨_, s', v', lc', .normal, h2 s' hq, hR'⟩
  | @exit id' =>
   have := h3 id' s' hq
   show (if id' = id then _ else _)
   split
   ·rename_i heq; rw [if_pos heq] at this; exact ⟨_, s', v', lc', .normal, this, hR'⟩
   ·rename_i heq; rw [if_neg heq] at this; exact ⟨_, s', v', lc', .exit, this, hR'⟩
  | ret => exact ⟨_, s', v', lc', .ret, h4 s' hq, hR'⟩
 | @loop c s Q Q1 h1 h2 h3 ih1 ih2 =>
  intro v0 w0 g0 v lc a w B hR
  refine wp_loop_unroll ?_ (wp_mono (ih1 v0 w0 g0 v lc a w B hR) ?_)
  ·rintro e a' w' ⟨x, s', v', lc', hx, _⟩
   cases hx with
   | normal => exact .inl rfl
   | exit => exact .inr (.inl ⟨_, rfl⟩)
   | ret => exact .inr (.inr rfl)
  ·rintro e a' w' ⟨x, s', v', lc', hx, hq, hR'⟩
   cases hx with
   | normal => exact ih2 s' hq v0 w0 g0 v' lc' a' w' B hR'
   | exit => exact ⟨_, s', v', lc', .exit, h3 _ _ (by simp) hq, hR'⟩
   | ret => exact ⟨_, s', v', lc', .ret, h3 _ _ (by simp) hq, hR'⟩
 | @region id ops s Q h ih =>
  intro v0 w0 g0 v lc a w B hR
  refine wp_region (wpOps_mono ?_ _ _ _ (ih v0 w0 g0 v lc a w B hR))
  rintro e a' w' ⟨s', v', lc', rfl, hq, hR'⟩
  exact ⟨_, s', v', lc', .normal, hq, hR'⟩
 | @regionD id ops s Q h ih =>
  intro v0 w0 g0 v lc a w B hR
  refine wp_region_draw (fun t => wpOps_mono ?_ _ _ _ (ih t v0 w0 g0 v lc a { w with drawn := w.drawn + 1 } B (hR.hle B (HLe.drawn w _))))
  rintro e a' w' ⟨s', v', lc', rfl, hq, hR'⟩
  exact ⟨_, s', v', lc', .normal, hq, hR'⟩
 | @nil ops s Q h =>
  intro v0 w0 g0 v lc a w B hR
  exact ⟨s, v, lc, rfl, h, hR⟩
 | @skipOp ops i l s Q o s' ho hw hput h ih =>
  intro v0 w0 g0 v lc a w B hR
  simp only [wpOps, ho]
  rw [if_neg (by rw [wants_ok hR hw]; simp)]
  exact ih v0 w0 g0 v lc _ w B (put_ok hR hput .undef)
 | @step ops i l s Q o x s1 s' ho hw hst hput h ih =>
  intro v0 w0 g0 v lc a w B hR
  simp only [wpOps, ho]
  rw [if_pos (wants_ok hR hw)]
  obtain ⟨r, w', v', lc', y, h1, h2, h3, h4, h5, h6⟩ := stepV_ok B hR hst
  refine .inl ?_
  unfold Oper.wp
  rw [h1]
  have := ih v0 w0 g0 v' lc' _ w' B (put_ok h5 hput h6)
  rcases h2 with rfl | ⟨rfl, rfl⟩
  ·exact this
  ·exact this
 | @next ops i l s Q o it p cs sf ho hw hop hev hn hall hq ih =>
  intro v0 w0 g0 v lc a w B hR
  simp only [wpOps, ho]
  rw [if_pos (wants_ok hR hw)]
  obtain ⟨c, hc, hstep⟩ := next_ok B hR hn (ev_rep hR.W hR.F hev) o.type
  obtain ⟨x, g', ha, hput⟩ := hall c hc
  obtain ⟨r, w', h1, h2, h3⟩ := hstep x g' ha
  refine .inl ?_
  unfold Oper.wp
  have : (execOp a.eval o).run E.P w = .ok (.value r) w' := by simp [execOp, hop, h1]
  rw [this]
  exact ih c hc v0 w0 g0 v lc _ w' B (put_ok h2 hput h3)
 | @callOp ops i l s Q o f args Q1 sf ho hw hcall h hput hq ih ihq =>
  intro v0 w0 g0 v lc a w B hR
  simp only [wpOps, ho]
  rw [if_pos (wants_ok hR hw)]
  obtain ⟨ys, h1, h2⟩ := call_exec hR hcall
  refine .inl ?_
  unfold Oper.wp
  rw [h1]
  have hwo : s.g.wo ≤ s.g.objs.length := by
   have := hR.S.wo
   have e1 := B.nobj
   have e2 := hR.S.ext.obj
   have e3 := hR.W.nobj
   omega
  have hwt : s.g.wt ≤ s.g.toks.length := by
   have := hR.S.wt
   have e1 : v0.toks.length = g0.toks.length := by rw [B.toks]
   have e2 := hR.S.ext.tok
   have e3 : v.toks.length = s.g.toks.length := by rw [hR.W.toks]
   omega
  refine (ih v w ys hR.W hwo hwt h2).mono ?_
  rintro e w' ⟨r, y, v', g', rfl, hQ1, hW', hr, hx, hP⟩
  have hR' : Rl E v0 w0 g0 v' lc { s with g := g' } a w' := ⟨hW', FR.after hR.W hR.F hP, Sn.after B hR.W hR.S hP, hR.H⟩
  exact ihq r g' hQ1 v0 w0 g0 v' lc _ w' B (put_ok hR' (hput r g' hQ1) (hr.ext (Ext.refl v') (fun t g b e => by cases e)))
 | @fnKeep f args g Q fn body Q1 hf hb hle h hq ih =>
  intro v w ys hW hwo hwt hargs
  refine calls_of_wp hf hb (wp_mono (ih v w g v noLc _ w hW.base (enter_ok hW hargs fn f hle)) ?_)
  rintro e a' w' ⟨x, s', v', lc', hx, hQ1, hR⟩
  obtain ⟨hxx, vs, hvs, hQ⟩ := hq x s' hQ1
  obtain ⟨zs, r1, r2, r3⟩ := resOf_ok hR hvs
  have hres : (results fn a'.tmps).run E.P w' = .ok (if h : zs.toArray.size = 1 then zs.toArray[0]'(by omega) else .tuple zs.toArray) w' := by
   unfold results
   rw [Array.mapM_eq_mapM_toList]
   simp only [Sem.run_bind, Sem.run_map]
   erw [r1]
   simp only [Result.andThen_ok, Sem.run_pure]
  have hpost : CallQ E v w g Q (.returned (if h : zs.toArray.size = 1 then zs.toArray[0]'(by omega) else .tuple zs.toArray)) w' := by
   refine ⟨_, _, v', _, rfl, hQ, ?_, pack_rep r2 r3, hR.S.ext, ⟨s'.g, hR.S, rfl, rfl, Nat.min_le_right _ _, Nat.min_le_left _ _, Nat.min_le_right _ _, Nat.min_le_left _ _⟩⟩
   have W := hR.W
   exact ⟨W.sg, W.nobj, W.toks, W.obj, W.inj, W.osz, W.osg, W.tk, W.tinj, W.glob⟩
  rcases hxx with rfl | rfl
  ·cases hx; exact ⟨hR.F.df, _, hres, hpost⟩
  ·cases hx; exact ⟨hR.F.df, _, hres, hpost⟩
 | @fnClean f args g Q fn body Q1 hf hb hle h hq ih =>
  intro v w ys hW hwo hwt hargs
  refine calls_of_wp hf hb (wp_mono (ih v w g v noLc _ w hW.base (enter_ok hW hargs fn f hle)) ?_)
  rintro e a' w' ⟨x, s', v', lc', hx, hQ1, hR⟩
  obtain ⟨hxx, vs, ws, hvs, hseal, hco, hct, hQ⟩ := hq x s' hQ1
  obtain ⟨zs, r1, r2, r3⟩ := resOf_ok hR hvs
  have hres : (results fn a'.tmps).run E.P w' = .ok (if h : zs.toArray.size = 1 then zs.toArray[0]'(by omega) else .tuple zs.toArray) w' := by
   unfold results
   rw [Array.mapM_eq_mapM_toList]
   simp only [Sem.run_bind, Sem.run_map]
   erw [r1]
   simp only [Result.andThen_ok, Sem.run_pure]
  have S := hR.S
  have W := hR.W
  have hobj : ∀ i, i < v.nobj → i < s'.g.wo := fun i hi => by rw [hco, ← hW.nobj]; exact hi
  have htok : ∀ i, i < v.toks.length → i < s'.g.wt := fun i hi => by rw [hct, ← hW.toks]; exact hi
  obtain ⟨f2, hf2⟩ : ∃ f2 : Nat → Option (Array Value), (∀ b cs, v'.sg b = some cs → f2 b = some cs) ∧ (∀ b, b < w.heap.size → v'.sg b = none → f2 b = none) ∧
    (∀ b cs, f2 b = some cs → v'.sg b = some cs ∨ ∃ e fr, w'.heap[b]? = some (.cells cs e fr)) ∧
    (∀ b C e fr, w.heap.size ≤ b → v'.sg b = none → w'.heap[b]? = some (.cells C e fr) → f2 b = some C) := by
   refine ⟨fun b => match v'.sg b with
    | some cs => some cs
    | none => if w.heap.size ≤ b then (match w'.heap[b]? with | some (.cells C _ _) => some C | _ => none) else none, ?_, ?_, ?_, ?_⟩
   ·intro b cs e; simp only [e]
   ·intro b hb e; simp only [e]; rw [if_neg (by omega)]
   ·intro b cs e
    cases h1 : v'.sg b with
    | some ds => simp only [h1] at e; exact .inl e
    | none =>
     simp only [h1] at e
     split at e
     ·split at e
      ·rename_i C e1 fr h2; injection e with e; subst e; exact .inr ⟨_, _, h2⟩
      ·cases e
     ·cases e
   ·intro b C e fr hb h1 h2
    simp only [h1, h2]; rw [if_pos hb]
  obtain ⟨f2a, f2b, f2c, f2d⟩ := hf2
  obtain ⟨v2, hv2⟩ : ∃ v2 : Vw, v2 = { v' with nobj := v.nobj, toks := v.toks, sg := f2 } := ⟨_, rfl⟩
  have hkap : ∀ k, k < v.toks.length → f2 (v.kap k) = v'.sg (v.kap k) := by
   intro k hk
   have h1 := (S.toks k (htok k hk)).2.2
   obtain ⟨_, _, _, cs, _, _, _, q⟩ := hW.tk k hk
   rw [h1, q]
   exact f2a _ _ (by rw [h1, q])
  have hx2 : Ext v v2 := by
   subst hv2
   refine ⟨fun b cs e => ?_, Nat.le_refl _, S.ext.rho, S.ext.osz, Nat.le_refl _, fun k p hk e => ⟨p, e, Nat.le_refl _, fun _ => ?_⟩⟩
   ·obtain ⟨ds, q⟩ := S.ext.sg b cs e
    exact ⟨ds, f2a _ _ q⟩
   have h1 := S.toks k (htok k hk)
   have h2 : v'.toks[k]? = some p := by rw [W.toks, h1.1, ← hW.toks]; exact e
   obtain ⟨q, q1, q2, q3⟩ := S.ext.alive k p hk h2
   have e' : v.toks[k]? = some p := e
   rw [q1] at e'
   injection e' with e'
   obtain ⟨r1, r2, r3⟩ := q3 e'
   exact ⟨r1, r2, (hkap k hk).trans r3⟩
  have hW2 : WR E v2 g w' := by
   subst hv2
   refine ⟨fun b cs e => ?_, hW.nobj, hW.toks, fun id o e => ?_, fun i j oi oj hi hj hoi hoj e => ?_, fun i hi => W.osz i (Nat.lt_of_lt_of_le hi S.ext.obj), fun i hi => ?_,
    fun k hk => ?_, fun i j hi hj => W.tinj i j (Nat.lt_of_lt_of_le hi S.ext.tok) (Nat.lt_of_lt_of_le hj S.ext.tok), fun gid row e => ⟨(hW.glob gid row e).rep.ext hx2 (fun _ _ _ h => h), (W.glob gid row e).size, by obtain ⟨cs, h3⟩ := (hW.glob gid row e).sg; obtain ⟨ds, h6⟩ := hx2.sg gid cs h3; exact ⟨_, h6⟩⟩⟩
   ·rcases f2c b cs e with q | ⟨e1, fr, q⟩
    ·exact W.sg b cs q
    ·exact ⟨cs, e1, fr, q, fun _ _ h => h⟩
   ·have hi : id < v.nobj := by rw [hW.nobj]; exact (List.getElem?_eq_some_iff.1 e).1
    show RepO _ o w'.heap[v'.rho id]?
    rw [S.ext.rho id hi]
    by_cases hl : o.live = true
    ·rw [(S.objs id (hobj id hi)).2 o e hl]
     exact (hW.obj id o e).ext hx2
    ·cases o with
     | dead =>
      have := Nat.lt_of_lt_of_le (hW.rho_lt hi) S.size
      rw [Array.getElem?_eq_getElem this]
      exact .dead
     | _ => exact absurd rfl hl
   ·have hi' : i < v.nobj := by rw [hW.nobj]; exact (List.getElem?_eq_some_iff.1 hi).1
    have hj' : j < v.nobj := by rw [hW.nobj]; exact (List.getElem?_eq_some_iff.1 hj).1
    have e1 : v'.rho i = v'.rho j := e
    rw [S.ext.rho i hi', S.ext.rho j hj'] at e1
    exact hW.inj i j oi oj hi hj hoi hoj e1
   ·have hi' : i < v.nobj := hi
    show f2 (v'.rho i) = none
    exact f2b _ (by rw [S.ext.rho i hi']; exact hW.rho_lt hi') (W.osg i (Nat.lt_of_lt_of_le hi' S.ext.obj))
   ·obtain ⟨C, e, fr, cs, q1, q2, q3, q4⟩ := W.tk k (Nat.lt_of_lt_of_le hk S.ext.tok)
    exact ⟨C, e, fr, cs, q1, q2, q3, f2a _ _ q4⟩
  have hS2 : Sn v w g v2 w' { g with wo := g.objs.length, wt := g.toks.length } := by
   subst hv2
   refine ⟨S.size, S.os, S.tape, S.out, hx2, fun i hi hlt => absurd hlt (Nat.not_lt.2 hi), fun i hi hlt => absurd hlt (Nat.not_lt.2 hi), S.kapo, fun k hk => S.kept k (htok k (by rw [hW.toks]; exact hk)), fun b hb hs => f2b b hb (S.sg b hb hs), S.other, Nat.le_refl _, Nat.le_refl _,
    fun i hi => ⟨rfl, (S.objs i (by rw [hco]; exact hi)).2⟩, fun k hk => ⟨rfl, (S.toks k (by rw [hct]; exact hk)).2.1, ?_⟩⟩
   have hk' : k < v.toks.length := by rw [hW.toks]; exact hk
   exact (hkap k hk').trans (S.toks k (by rw [hct]; exact hk)).2.2
  have hF : Frz s'.g v' v2 := by
   subst hv2
   refine ⟨f2a, fun id cs hob hwo => ?_⟩
   have hid : id < v'.nobj := by rw [W.nobj]; exact (List.getElem?_eq_some_iff.1 hob).1
   have hge : v.nobj ≤ id := by rw [hW.nobj, ← hco]; exact hwo
   have ho := W.obj id _ hob
   generalize hx : w'.heap[v'.rho id]? = X at ho
   cases ho with
   | @cells _ ds C el fr q3 q4 =>
    refine ⟨C, ds, f2d _ C el fr ?_ (W.osg id hid) hx, q4⟩
    rcases S.rho id hge hid with q | ⟨j, q1, q2, q3⟩
    ·exact q
    ·rw [hco, ← hW.nobj] at q1
     omega
  obtain ⟨s1, s2⟩ := sealL_ok hseal r2 r3 v2 hF
  have hpost : CallQ E v w g Q (.returned (if h : zs.toArray.size = 1 then zs.toArray[0]'(by omega) else .tuple zs.toArray)) w' :=
   ⟨_, _, v2, g, rfl, hQ, hW2, pack_rep s1 s2, hx2, ⟨_, hS2, rfl, rfl, hwo, Nat.le_refl _, hwt, Nat.le_refl _⟩⟩
  rcases hxx with rfl | rfl
  ·cases hx; exact ⟨hR.F.df, _, hres, hpost⟩
  ·cases hx; exact ⟨hR.F.df, _, hres, hpost⟩
 | @prim f args g Q h => exact hp f args g Q h
end Go.Vm
set_option linter.unusedVariables false
set_option linter.unusedSimpArgs false
namespace Go.Vm
open Go
def St.setT (s : St) (d : Nat) (v : V) : St := { s with tm := upd s.tm d v }
section
variable {E : Env} {s : St} {d : Nat} {u : V}
theorem ev_setT {x : Operand} (h : x ≠ .tmp d) : (s.setT d u).ev E x = s.ev E x := by
 cases x with
 | tmp t => simp only [St.ev, St.setT, upd]; rw [if_neg]; intro e; exact h (by rw [e])
 | _ => rfl
theorem evL_setT {l : List Operand} (h : Operand.tmp d ∉ l) : evL E (s.setT d u) l = evL E s l := by
 induction l with
 | nil => rfl
 | cons x l ih =>
  simp only [List.mem_cons, not_or] at h
  simp only [evL, ev_setT (E := E) (s := s) (u := u) (fun e => h.1 e.symm), ih h.2]
theorem parts_setT {l : List (Nat × Operand)} (h : Operand.tmp d ∉ l.map (·.2)) : (s.setT d u).parts E l = s.parts E l := by
 induction l with
 | nil => rfl
 | cons x l ih =>
  obtain ⟨i, x⟩ := x
  simp only [List.map_cons, List.mem_cons, not_or] at h
  simp only [St.parts, ev_setT (E := E) (s := s) (u := u) (fun e => h.1 e.symm), ih h.2]
theorem optEv_setT {x : Option Operand} (h : Operand.tmp d ∉ x.toList) : optEv E (s.setT d u) x = optEv E s x := by
 cases x with
 | none => rfl
 | some x => simp only [Option.toList_some, List.mem_singleton] at h; simp only [optEv, ev_setT (E := E) (s := s) (u := u) (fun e => h e.symm)]
def aft (d : Nat) (u : V) (p : V × St) : V × St := (p.1, p.2.setT d u)
theorem newVar_setT {dst : Option Tmp} {cs : List V} : (s.setT d u).newVar dst cs = (s.newVar dst cs).map (aft d u) := by
 unfold St.newVar
 cases dst with
 | none => rfl
 | some t =>
  have he : (s.setT d u).esc t = s.esc t := rfl
  simp only [he]
  by_cases h1 : cs.all one = true
  ·rw [if_pos h1, if_pos h1]
   by_cases h2 : s.esc t = true
   ·rw [if_pos h2, if_pos h2]; rfl
   ·rw [if_neg h2, if_neg h2]; rfl
  ·rw [if_neg h1, if_neg h1]; rfl
theorem storeCells_setT {a : V} {vs : List V} : (s.setT d u).storeCells a vs = (s.storeCells a vs).map (·.setT d u) := by
 unfold St.storeCells
 split
 ·cases a <;> simp only [St.setT] <;> first | rfl | skip
  ·split
   ·rename_i cs h; cases put? cs _ vs <;> rfl
   ·rfl
  ·split
   ·rename_i g' cs h
    split
    ·cases put? cs _ vs <;> rfl
    ·rfl
   ·rfl
 ·rfl
theorem append_setT {dst : Option Tmp} {e : TypeId} {x y : V} : (s.setT d u).append E dst e x y = (s.append E dst e x y).map (aft d u) := by
 have hbg : (s.setT d u).big dst = s.big dst := rfl
 have hr : ∀ n v, (s.setT d u).rows n v = s.rows n v := fun n v => rfl
 have hg : (s.setT d u).g = s.g := rfl
 unfold St.append
 simp only [hr, hg, hbg]
 cases h1 : E.P.info? e with
 | none => rfl
 | some i =>
  cases h2 : zeroOf E e with
  | none => rfl
  | some z =>
   simp only
   cases h3 : s.rows i.size y with
   | none => rfl
   | some new =>
    cases new with
    | nil => simp only; split <;> rfl
    | cons r new =>
     simp only
     split
     ·rfl
     ·cases x with
      | p x => cases x <;> first | rfl | (simp only; repeat' split) <;> rfl
      | sl rows k => cases k <;> (simp only; repeat' split) <;> rfl
      | arr id off len cap m => simp only; (repeat' split) <;> rfl
      | _ => rfl
theorem stepV_setT {o : Oper} (h : Operand.tmp d ∉ o.op.operands.toList) : stepV E (s.setT d u) o = (stepV E s o).map (aft d u) := by
 have hg : (s.setT d u).g = s.g := rfl
 have hl : ∀ t a, (s.setT d u).loadV E t a = s.loadV E t a := fun _ _ => rfl
 have hsl : ∀ t a b c, (s.setT d u).slice E t a b c = s.slice E t a b c := fun _ _ _ _ => rfl
 have hln : ∀ t a, lenOf (s.setT d u) t a = lenOf s t a := by
  intro t a; unfold lenOf; rw [hg]
 have one : ∀ {x : Operand}, x ∈ o.op.operands.toList → (s.setT d u).ev E x = s.ev E x := fun hx => ev_setT fun e => h (e ▸ hx)
 obtain ⟨dst, op, type, pos, after, guard⟩ := o
 cases op with
 | move x => simp only [stepV]; rw [one (by simp [Op.operands])]; cases s.ev E x <;> rfl
 | assign x => simp only [stepV]; rw [one (by simp [Op.operands])]; cases s.ev E x <;> rfl
 | pick c a b =>
  simp only [stepV]; rw [one (x := c) (by simp [Op.operands])]
  have ha := one (x := a) (by simp [Op.operands])
  have hb := one (x := b) (by simp [Op.operands])
  split
  ·rename_i t _
   cases t
   ·simp only [Bool.false_eq_true, if_false, hb]; cases s.ev E b <;> rfl
   ·simp only [if_true, ha]; cases s.ev E a <;> rfl
  ·rfl
 | alloc t => simp only [stepV]; cases zeroOf E t with
  | none => rfl
  | some cs => exact newVar_setT
 | box t x => simp only [stepV]; rw [one (by simp [Op.operands])]; cases s.ev E x with
  | none => rfl
  | some v => exact newVar_setT
 | build t parts =>
  have hp : (s.setT d u).parts E parts.toList = s.parts E parts.toList := parts_setT (by simpa [Op.operands] using h)
  simp only [stepV]; rw [hp]
  split
  ·split
   ·rw [Option.map_map]; rfl
   ·rfl
  ·rfl
 | buildSlice t len parts =>
  have hp : (s.setT d u).parts E parts.toList = s.parts E parts.toList := parts_setT (by simpa [Op.operands] using h)
  simp only [stepV]; rw [hp]
  split
  ·split
   ·rename_i n z ps _ _ _
    split
    ·rfl
    ·have hbg : (s.setT d u).big dst = s.big dst := rfl
     simp only [hbg]
     cases fillIn (fun i => some (i * n, n)) (List.replicate len z).flatten ps with
     | none => rfl
     | some cs => simp only [Option.map_some]; split <;> rfl
   ·rfl
  ·rfl
 | load t a =>
  simp only [stepV]; rw [one (by simp [Op.operands])]
  cases s.ev E a with
  | none => rfl
  | some x => simp only [hl]; cases s.loadV E t x <;> rfl
 | store t a x =>
  simp only [stepV]; rw [one (x := a) (by simp [Op.operands]), one (x := x) (by simp [Op.operands])]
  split
  ·rename_i p v n _ _ _
   split
   ·rw [storeCells_setT]; cases s.storeCells p (cellsOf v) <;> rfl
   ·rfl
  ·rfl
 | nilCheck x =>
  simp only [stepV]; rw [one (by simp [Op.operands])]
  cases s.ev E x with
  | none => rfl
  | some v => simp only; split <;> rfl
 | binOp op t x y z =>
  simp only [stepV]; rw [one (x := x) (by simp [Op.operands]), one (x := y) (by simp [Op.operands])]
  split
  ·rename_i a b _ _; cases bin E op t a b <;> rfl
  ·rfl
 | unOp op t x =>
  simp only [stepV]; rw [one (by simp [Op.operands])]
  cases s.ev E x with
  | none => rfl
  | some a => simp only; cases un op a <;> rfl
 | convert a b x =>
  simp only [stepV]; rw [one (by simp [Op.operands])]
  split
  ·rename_i a b v _ _ _; cases convT a b v <;> rfl
  ·rfl
 | makeFunc f first caps =>
  cases f with
  | func f =>
   have hp : evL E (s.setT d u) caps.toList = evL E s caps.toList := evL_setT (by intro hh; apply h; simp only [Op.operands, Array.toList_append, List.mem_append]; exact Or.inr hh)
   simp only [stepV]; rw [hp]
   split
   ·cases evL E s caps.toList with
    | none => rfl
    | some vs => simp only; split <;> rfl
   ·rfl
  | _ => rfl
 | makeMap t r => cases r <;> rfl
 | makeSlice t l c =>
  simp only [stepV]; rw [one (x := l) (by simp [Op.operands]), one (x := c) (by simp [Op.operands])]
  split
  ·split
   ·split <;> rfl
   ·rfl
  ·rfl
 | slice t x lo hi mx =>
  cases mx with
  | some m => rfl
  | none =>
   have h1 : optEv E (s.setT d u) lo = optEv E s lo := optEv_setT (by intro hh; apply h; cases lo <;> simp_all [Op.operands])
   have h2 : optEv E (s.setT d u) hi = optEv E s hi := optEv_setT (by intro hh; apply h; cases lo <;> cases hi <;> simp_all [Op.operands])
   simp only [stepV]; rw [one (x := x) (by simp [Op.operands]), h1, h2]
   split
   ·rename_i v l h _ _ _; rw [hsl]; cases s.slice E t v l h <;> rfl
   ·rfl
 | fieldAddr t x f =>
  simp only [stepV]; rw [one (by simp [Op.operands])]
  split
  ·rename_i a off _ _ _ _; cases addTo a off <;> rfl
  ·rfl
 | field t x f =>
  simp only [stepV]; rw [one (by simp [Op.operands])]
  split
  ·split
   ·rename_i cs off n ag _ _ _ r _; cases mkv ag r <;> rfl
   ·rfl
  ·rfl
 | indexAddr t x i =>
  simp only [stepV]; rw [one (x := x) (by simp [Op.operands]), one (x := i) (by simp [Op.operands])]
  split
  ·split
   ·rfl
   ·split
    ·split
     ·split
      ·rfl
      ·split
       ·split
        ·split <;> rfl
        ·rfl
       ·split
        ·split <;> rfl
        ·rfl
       ·split <;> rfl
       ·rfl
     ·rfl
    ·split
     ·split
      ·rename_i v k j _ _ _ _ len e _ _ n _ _; cases addTo v (j.toNat * n) <;> rfl
      ·rfl
     ·rfl
    ·rfl
  ·rfl
 | index t x i =>
  simp only [stepV]; rw [one (x := x) (by simp [Op.operands]), one (x := i) (by simp [Op.operands])]
  split
  ·split
   ·split
    ·split <;> rfl
    ·rfl
   ·rfl
  ·rfl
 | lookup t x i ok =>
  simp only [stepV]; rw [one (x := x) (by simp [Op.operands]), one (x := i) (by simp [Op.operands]), hg]
  split
  ·split
   ·split
    ·split <;> rfl
    ·rfl
   ·rfl
  ·rfl
 | mapUpdate t m k x =>
  simp only [stepV]; rw [one (x := m) (by simp [Op.operands]), one (x := k) (by simp [Op.operands]), one (x := x) (by simp [Op.operands]), hg]
  split
  ·split
   ·split
    ·split <;> rfl
    ·rfl
   ·rfl
  ·rfl
 | insert t m k x =>
  simp only [stepV]; rw [one (x := m) (by simp [Op.operands]), one (x := k) (by simp [Op.operands]), one (x := x) (by simp [Op.operands]), hg]
  split
  ·split
   ·split
    ·split <;> rfl
    ·rfl
   ·rfl
  ·rfl
 | range t x =>
  simp only [stepV]; rw [one (by simp [Op.operands]), hg]
  split
  ·split <;> rfl
  ·rfl
  ·rfl
 | entry x =>
  simp only [stepV]; rw [one (by simp [Op.operands]), hg]
  split
  ·rename_i it _; cases entryOf s.g it <;> rfl
  ·rfl
 | extract x i =>
  simp only [stepV]; rw [one (by simp [Op.operands])]
  split
  ·split <;> rfl
  ·rfl
 | call c =>
  obtain ⟨callee, args, argTypes⟩ := c
  cases callee with
  | builtin b =>
   have hp : evL E (s.setT d u) args.toList = evL E s args.toList := evL_setT (by simpa [Op.operands, Call.operands] using h)
   cases b <;> first | rfl | skip
   case len =>
    simp only [stepV]; rw [hp]
    split
    ·split
     ·rename_i x _ _ _ _ dd _; rw [hln]; cases lenOf s dd x <;> rfl
     ·rfl
    ·rfl
   case append =>
    simp only [stepV]; rw [hp]
    split
    ·split
     ·exact append_setT
     ·exact append_setT
     ·rfl
    ·rfl
   case clear =>
    simp only [stepV]; rw [hp]
    split
    ·rename_i id off len _ t _ _
     split
     ·split
      ·rename_i z _
       split
       ·rfl
       ·rw [storeCells_setT]; cases s.storeCells (.ptr id off) (List.replicate len z) <;> rfl
      ·rfl
     ·rfl
    ·rfl
   case max =>
    simp only [stepV]; rw [hp]
    split
    ·rename_i x l _; cases maxL x l <;> rfl
    ·rfl
   case min =>
    simp only [stepV]; rw [hp]
    split
    ·rename_i x l _; cases minL x l <;> rfl
    ·rfl
  | _ => rfl
 | _ => rfl
end
end Go.Vm
set_option linter.unusedVariables false
set_option linter.unusedSimpArgs false
namespace Go.Vm
open Go
inductive Cl where | q | r | c | l | n | w
 deriving DecidableEq
def clOp (big : Bool) : Op → Cl
 | .buildSlice .. => if big then .n else .q
 | .call { callee := .builtin .append, .. } => if big then .w else .n
 | .move _ | .assign _ | .pick .. | .build .. | .nilCheck _ | .binOp .. | .unOp .. | .convert .. | .makeFunc .. | .slice ..
 | .fieldAddr .. | .field .. | .indexAddr .. | .index .. | .extract .. => .q
 | .call { callee := .builtin .max, .. } | .call { callee := .builtin .min, .. } => .q
 | .load .. | .lookup .. | .call { callee := .builtin .len, .. } => .r
 | .call { callee := .value _, .. } => .c
 | .alloc _ | .box _ _ => .l
 | .makeMap .. | .makeSlice .. => .n
 | _ => .w
def bigOf (esc : Nat → Bool) : Option Tmp → Bool
 | some d => esc d
 | none => false
def clOf (esc : Nat → Bool) (o : Oper) : Cl := clOp (bigOf esc o.dst) o.op
theorem big_eq (s : St) (d : Option Tmp) : s.big d = bigOf s.esc d := rfl
section
variable {E : Env}
theorem stepV_tm {s s1 : St} {o : Oper} {v : V} (h : stepV E s o = some (v, s1)) : s1.tm = s.tm ∧ s1.nt = s.nt ∧ s1.esc = s.esc := by
 have nv : ∀ {dst cs v s1}, s.newVar dst cs = some (v, s1) → s1.tm = s.tm ∧ s1.nt = s.nt ∧ s1.esc = s.esc := by
  intro dst cs v s1 h
  unfold St.newVar at h
  split at h
  ·split at h
   ·split at h <;> (cases h; exact ⟨rfl, rfl, rfl⟩)
   ·cases h
  ·cases h
 have sc : ∀ {a vs s1}, s.storeCells a vs = some s1 → s1.tm = s.tm ∧ s1.nt = s.nt ∧ s1.esc = s.esc := by
  intro a vs s1 h
  unfold St.storeCells at h
  split at h
  ·split at h
   ·split at h
    ·split at h
     ·obtain ⟨x, _, rfl⟩ := Option.map_eq_some_iff.1 h; exact ⟨rfl, rfl, rfl⟩
     ·cases h
    ·cases h
   ·split at h
    ·obtain ⟨x, _, rfl⟩ := Option.map_eq_some_iff.1 h; exact ⟨rfl, rfl, rfl⟩
    ·cases h
   ·cases h
  ·cases h
 have ap : ∀ {dst e x y v s1}, s.append E dst e x y = some (v, s1) → s1.tm = s.tm ∧ s1.nt = s.nt ∧ s1.esc = s.esc := by
  intro dst e x y v s1 h
  unfold St.append at h
  (repeat' (split at h)) <;> first | (cases h; exact ⟨rfl, rfl, rfl⟩) | cases h
 obtain ⟨dst, op, type, pos, after, guard⟩ := o
 cases op with
 | alloc t => simp only [stepV] at h; split at h; exact nv h; cases h
 | box t x => simp only [stepV] at h; split at h; exact nv h; cases h
 | store t a x =>
  simp only [stepV] at h
  split at h
  ·split at h
   ·obtain ⟨x, hx, e⟩ := Option.map_eq_some_iff.1 h; cases e; exact sc hx
   ·cases h
  ·cases h
 | call c =>
  obtain ⟨callee, args, argTypes⟩ := c
  cases callee with
  | builtin b =>
   cases b <;> simp only [stepV] at h <;> first | cases h | skip
   case append => split at h <;> first | (split at h <;> first | exact ap h | cases h) | cases h
   all_goals (repeat' (split at h)) <;> first | (obtain ⟨x, hx, e⟩ := Option.map_eq_some_iff.1 h; cases e; exact ⟨rfl, rfl, rfl⟩) | (obtain ⟨x, hx, e⟩ := Option.map_eq_some_iff.1 h; cases e; exact sc hx) | cases h
  | _ => simp [stepV] at h
 | buildSlice t len parts =>
  simp only [stepV] at h
  split at h
  ·split at h
   ·split at h
    ·cases h
    ·obtain ⟨x, hx, e⟩ := Option.map_eq_some_iff.1 h
     split at e <;> (cases e; exact ⟨rfl, rfl, rfl⟩)
   ·cases h
  ·cases h
 | makeFunc f first caps => cases f <;> (simp only [stepV] at h; (repeat' (split at h)) <;> first | (obtain ⟨x, hx, e⟩ := Option.map_eq_some_iff.1 h; cases e; exact ⟨rfl, rfl, rfl⟩) | (cases h; exact ⟨rfl, rfl, rfl⟩) | cases h)
 | makeMap t r => cases r <;> (simp only [stepV] at h; (repeat' (split at h)) <;> first | (obtain ⟨x, hx, e⟩ := Option.map_eq_some_iff.1 h; cases e; exact ⟨rfl, rfl, rfl⟩) | (cases h; exact ⟨rfl, rfl, rfl⟩) | cases h)
 | slice t x lo hi mx => cases mx <;> (simp only [stepV] at h; (repeat' (split at h)) <;> first | (obtain ⟨x, hx, e⟩ := Option.map_eq_some_iff.1 h; cases e; exact ⟨rfl, rfl, rfl⟩) | (cases h; exact ⟨rfl, rfl, rfl⟩) | cases h)
 | _ => (simp only [stepV] at h; (repeat' (split at h)) <;> first | (obtain ⟨x, hx, e⟩ := Option.map_eq_some_iff.1 h; cases e; exact ⟨rfl, rfl, rfl⟩) | (cases h; exact ⟨rfl, rfl, rfl⟩) | cases h)
theorem stepV_q {s : St} {o : Oper} {v : V} {s1 : St} (hq : clOf s.esc o = .q) (h : stepV E s o = some (v, s1)) : s1 = s := by
 obtain ⟨dst, op, type, pos, after, guard⟩ := o
 cases op with
 | call c =>
  obtain ⟨callee, args, argTypes⟩ := c
  cases callee with
  | builtin b =>
   cases b <;> first | (simp [clOf, clOp] at hq; done) | (simp [clOf, clOp] at hq; split at hq <;> cases hq) | skip
   all_goals (simp only [stepV] at h; (repeat' (split at h)) <;> first | (obtain ⟨x, hx, e⟩ := Option.map_eq_some_iff.1 h; cases e; rfl) | cases h)
  | _ => simp [stepV] at h
 | buildSlice t len parts =>
  have hb : s.big dst = false := by
   rw [big_eq]
   cases h2 : bigOf s.esc dst with
   | false => rfl
   | true => simp [clOf, clOp, h2] at hq
  simp only [stepV, hb] at h
  split at h
  ·split at h
   ·split at h
    ·cases h
    ·obtain ⟨x, hx, e⟩ := Option.map_eq_some_iff.1 h
     cases e; rfl
   ·cases h
  ·cases h
 | makeFunc f first caps => cases f <;> (simp only [stepV] at h; (repeat' (split at h)) <;> first | (obtain ⟨x, hx, e⟩ := Option.map_eq_some_iff.1 h; cases e; rfl) | (cases h; rfl) | cases h)
 | slice t x lo hi mx => cases mx <;> (simp only [stepV] at h; (repeat' (split at h)) <;> first | (obtain ⟨x, hx, e⟩ := Option.map_eq_some_iff.1 h; cases e; rfl) | (cases h; rfl) | cases h)
 | _ => first | (simp [clOf, clOp] at hq; done) | (simp only [stepV] at h; (repeat' (split at h)) <;> first | (obtain ⟨x, hx, e⟩ := Option.map_eq_some_iff.1 h; cases e; rfl) | (cases h; rfl) | cases h)
theorem evL_congr {s s' : St} {l : List Operand} (h : ∀ x ∈ l, s'.ev E x = s.ev E x) : evL E s' l = evL E s l := by
 induction l with
 | nil => rfl
 | cons x l ih => simp only [evL, h x (by simp), ih fun y hy => h y (List.mem_cons_of_mem _ hy)]
theorem parts_congr {s s' : St} {l : List (Nat × Operand)} (h : ∀ x ∈ l.map (·.2), s'.ev E x = s.ev E x) : s'.parts E l = s.parts E l := by
 induction l with
 | nil => rfl
 | cons x l ih =>
  obtain ⟨i, x⟩ := x
  simp only [St.parts, h x (by simp), ih fun y hy => h y (by simp at hy ⊢; exact Or.inr hy)]
theorem optEv_congr {s s' : St} {x : Option Operand} (h : ∀ y ∈ x.toList, s'.ev E y = s.ev E y) : optEv E s' x = optEv E s x := by
 cases x with
 | none => rfl
 | some x => simp only [optEv, h x (by simp)]
def at' (s' : St) (p : V × St) : V × St := (p.1, s')
theorem stepV_q_map {s s' : St} {o : Oper} (hq : clOf s.esc o = .q) (he : s'.esc = s.esc) (one : ∀ {x : Operand}, x ∈ o.op.operands.toList → s'.ev E x = s.ev E x) :
  stepV E s' o = (stepV E s o).map (at' s') := by
 have hsl : ∀ t a b c, s'.slice E t a b c = s.slice E t a b c := fun _ _ _ _ => rfl
 obtain ⟨dst, op, type, pos, after, guard⟩ := o
 cases op with
 | move x => simp only [stepV]; rw [one (by simp [Op.operands])]; cases s.ev E x <;> rfl
 | assign x => simp only [stepV]; rw [one (by simp [Op.operands])]; cases s.ev E x <;> rfl
 | pick c a b =>
  simp only [stepV]; rw [one (x := c) (by simp [Op.operands])]
  have ha := one (x := a) (by simp [Op.operands])
  have hb := one (x := b) (by simp [Op.operands])
  split
  ·rename_i t _
   cases t
   ·simp only [Bool.false_eq_true, if_false, hb]; cases s.ev E b <;> rfl
   ·simp only [if_true, ha]; cases s.ev E a <;> rfl
  ·rfl
 | build t parts =>
  have hp : s'.parts E parts.toList = s.parts E parts.toList := parts_congr fun x hx => one (by simpa [Op.operands] using hx)
  simp only [stepV]; rw [hp]
  split
  ·split
   ·rw [Option.map_map]; rfl
   ·rfl
  ·rfl
 | buildSlice t len parts =>
  have hb : s.big dst = false := by
   rw [big_eq]
   cases h2 : bigOf s.esc dst with
   | false => rfl
   | true => simp [clOf, clOp, h2] at hq
  have hb' : s'.big dst = false := by rw [big_eq, he, ← big_eq]; exact hb
  have hp : s'.parts E parts.toList = s.parts E parts.toList := parts_congr fun x hx => one (by simpa [Op.operands] using hx)
  simp only [stepV, hb, hb']; rw [hp]
  split
  ·split
   ·rename_i n z ps _ _ _
    split
    ·rfl
    ·cases fillIn (fun i => some (i * n, n)) (List.replicate len z).flatten ps <;> rfl
   ·rfl
  ·rfl
 | nilCheck x =>
  simp only [stepV]; rw [one (by simp [Op.operands])]
  cases s.ev E x with
  | none => rfl
  | some v => simp only; split <;> rfl
 | binOp op t x y z =>
  simp only [stepV]; rw [one (x := x) (by simp [Op.operands]), one (x := y) (by simp [Op.operands])]
  split
  ·rename_i a b _ _; cases bin E op t a b <;> rfl
  ·rfl
 | unOp op t x =>
  simp only [stepV]; rw [one (by simp [Op.operands])]
  cases s.ev E x with
  | none => rfl
  | some a => simp only; cases un op a <;> rfl
 | convert a b x =>
  simp only [stepV]; rw [one (by simp [Op.operands])]
  split
  ·rename_i a b v _ _ _; cases convT a b v <;> rfl
  ·rfl
 | makeFunc f first caps =>
  cases f with
  | func f =>
   have hp : evL E s' caps.toList = evL E s caps.toList := evL_congr fun x hx => one (by simp only [Op.operands, Array.toList_append, List.mem_append]; exact Or.inr hx)
   simp only [stepV]; rw [hp]
   split
   ·cases evL E s caps.toList with
    | none => rfl
    | some vs => simp only; split <;> rfl
   ·rfl
  | _ => rfl
 | slice t x lo hi mx =>
  cases mx with
  | some m => rfl
  | none =>
   have h1 : optEv E s' lo = optEv E s lo := optEv_congr fun y hy => one (by cases lo <;> simp_all [Op.operands])
   have h2 : optEv E s' hi = optEv E s hi := optEv_congr fun y hy => one (by cases lo <;> cases hi <;> simp_all [Op.operands])
   simp only [stepV]; rw [one (x := x) (by simp [Op.operands]), h1, h2]
   split
   ·rename_i v l h _ _ _; rw [hsl]; cases s.slice E t v l h <;> rfl
   ·rfl
 | fieldAddr t x f =>
  simp only [stepV]; rw [one (by simp [Op.operands])]
  split
  ·rename_i a off _ _ _ _; cases addTo a off <;> rfl
  ·rfl
 | field t x f =>
  simp only [stepV]; rw [one (by simp [Op.operands])]
  split
  ·split
   ·rename_i cs off n ag _ _ _ r _; cases mkv ag r <;> rfl
   ·rfl
  ·rfl
 | indexAddr t x i =>
  simp only [stepV]; rw [one (x := x) (by simp [Op.operands]), one (x := i) (by simp [Op.operands])]
  split
  ·split
   ·rfl
   ·split
    ·split
     ·split
      ·rfl
      ·split
       ·split
        ·split <;> rfl
        ·rfl
       ·split
        ·split <;> rfl
        ·rfl
       ·split <;> rfl
       ·rfl
     ·rfl
    ·split
     ·split
      ·rename_i v k j _ _ _ _ len e _ _ n _ _; cases addTo v (j.toNat * n) <;> rfl
      ·rfl
     ·rfl
    ·rfl
  ·rfl
 | index t x i =>
  simp only [stepV]; rw [one (x := x) (by simp [Op.operands]), one (x := i) (by simp [Op.operands])]
  split
  ·split
   ·split
    ·split <;> rfl
    ·rfl
   ·rfl
  ·rfl
 | extract x i =>
  simp only [stepV]; rw [one (by simp [Op.operands])]
  split
  ·split <;> rfl
  ·rfl
 | call c =>
  obtain ⟨callee, args, argTypes⟩ := c
  cases callee with
  | builtin b =>
   cases b <;> first | (simp [clOf, clOp] at hq; done) | (simp [clOf, clOp] at hq; split at hq <;> (cases hq; done)) | skip
   case max =>
    have hp : evL E s' args.toList = evL E s args.toList := evL_congr fun x hx => one (by simpa [Op.operands, Call.operands] using hx)
    simp only [stepV]; rw [hp]
    split
    ·rename_i x l _; cases maxL x l <;> rfl
    ·rfl
   case min =>
    have hp : evL E s' args.toList = evL E s args.toList := evL_congr fun x hx => one (by simpa [Op.operands, Call.operands] using hx)
    simp only [stepV]; rw [hp]
    split
    ·rename_i x l _; cases minL x l <;> rfl
    ·rfl
  | _ => first | (simp [clOf, clOp] at hq; done) | (simp [clOf, clOp] at hq; split at hq <;> cases hq)
 | _ => first | (simp [clOf, clOp] at hq; done) | (simp [clOf, clOp] at hq; split at hq <;> cases hq)
theorem loadCells_le {s s' : St} {a : V} {n : Nat} {cs : List V} (hg : ∀ (id : Nat) ob, s.g.objs[id]? = some ob → s'.g.objs[id]? = some ob)
  (hl : ∀ t g off, a = .loc t g off → s'.rg t = s.rg t) (h : s.loadCells a n = some cs) : s'.loadCells a n = some cs := by
 unfold St.loadCells at h ⊢
 cases a with
 | loc t g off => simp only at h ⊢; rw [hl t g off rfl]; exact h
 | ptr id off =>
  simp only at h ⊢
  split at h
  ·rename_i cs' hc; rw [hg _ _ hc]; exact h
  ·cases h
 | _ => first | exact h | cases h
theorem loadV_le {s s' : St} {t : TypeId} {a v : V} (hg : ∀ (id : Nat) ob, s.g.objs[id]? = some ob → s'.g.objs[id]? = some ob)
  (hl : ∀ t g off, a = .loc t g off → s'.rg t = s.rg t) (h : s.loadV E t a = some v) : s'.loadV E t a = some v := by
 unfold St.loadV at h ⊢
 split
 ·rename_i h1; simp only [h1] at h
  split
  ·rename_i n h2; simp only [h2] at h
   obtain ⟨cs, hc, rfl⟩ := Option.map_eq_some_iff.1 h
   rw [loadCells_le hg hl hc]; rfl
  ·rename_i h2; simp only [h2] at h; cases h
 ·rename_i h1; simp only [h1] at h
  split at h
  ·rename_i x hc; rw [loadCells_le hg hl hc]; exact h
  ·cases h
 ·rename_i h1; simp only [h1] at h; cases h
theorem lenOf_le {s s' : St} {d : TypeDesc} {x : V} {n : Nat} (hg : ∀ (id : Nat) ob, s.g.objs[id]? = some ob → s'.g.objs[id]? = some ob) (h : lenOf s d x = some n) : lenOf s' d x = some n := by
 unfold lenOf at h ⊢
 split at h <;> first | exact h | skip
 split at h
 ·rename_i es c hc; rw [hg _ _ hc]; exact h
 ·cases h
theorem stepV_r {s : St} {o : Oper} {v : V} {s1 : St} (hq : clOf s.esc o = .r) (h : stepV E s o = some (v, s1)) : s1 = s ∧
  ∀ s' : St, (∀ {x : Operand}, x ∈ o.op.operands.toList → s'.ev E x = s.ev E x) → (∀ (id : Nat) ob, s.g.objs[id]? = some ob → s'.g.objs[id]? = some ob) →
   (∀ t g off, ∀ x ∈ o.op.operands.toList, s.ev E x = some (.loc t g off) → s'.rg t = s.rg t) → stepV E s' o = some (v, s') := by
 obtain ⟨dst, op, type, pos, after, guard⟩ := o
 cases op with
 | load t a =>
  simp only [stepV] at h
  split at h
  ·rename_i x hx
   obtain ⟨y, hy, e⟩ := Option.map_eq_some_iff.1 h
   cases e
   refine ⟨rfl, fun s' one hg hl => ?_⟩
   simp only [stepV]
   rw [one (x := a) (by simp [Op.operands]), hx]
   simp only
   rw [loadV_le hg (fun t g off e => hl t g off a (by simp [Op.operands]) (by rw [hx, e])) hy]
   rfl
  ·cases h
 | lookup t x i ok =>
  simp only [stepV] at h
  split at h
  ·rename_i kt et m k h1 h2 h3
   split at h
   ·rename_i kd zv es h4 h5 h6
    have he : ∀ s' : St, (∀ (id : Nat) ob, s.g.objs[id]? = some ob → s'.g.objs[id]? = some ob) → entriesOf s'.g m = some es := by
     intro s' hg
     unfold entriesOf at h6 ⊢
     cases m with
     | p y => cases y <;> first | exact h6 | cases h6
     | map id =>
      simp only at h6 ⊢
      split at h6
      ·rename_i es' c hc; rw [hg _ _ hc]; exact h6
      ·cases h6
     | _ => cases h6
    have hs : s1 = s := by
     split at h
     ·split at h <;> (cases h; rfl)
     ·cases h
    refine ⟨hs, fun s' one hg hl => ?_⟩
    simp only [stepV]
    rw [one (x := x) (by simp [Op.operands]), one (x := i) (by simp [Op.operands]), h1, h2, h3]
    simp only
    rw [h4, h5, he s' hg]
    simp only
    split at h
    ·rename_i hc
     rw [if_pos hc]
     split at h <;> (rename_i hf; cases h; simp only [hf])
    ·cases h
   ·cases h
  ·cases h
 | call c =>
  obtain ⟨callee, args, argTypes⟩ := c
  cases callee with
  | builtin b =>
   cases b <;> first | (simp [clOf, clOp] at hq; done) | (simp [clOf, clOp] at hq; split at hq <;> (cases hq; done)) | skip
   simp only [stepV] at h
   split at h
   ·rename_i x t h1 h2
    split at h
    ·rename_i d h3
     cases hn : lenOf s d x with
     | none => rw [hn] at h; cases h
     | some n =>
      rw [hn] at h
      cases h
      refine ⟨rfl, fun s' one hg hl => ?_⟩
      have hp : evL E s' args.toList = evL E s args.toList := evL_congr fun x hx => one (by simpa [Op.operands, Call.operands] using hx)
      simp only [stepV]
      rw [hp, h1, h2]
      simp only
      rw [h3]
      simp only
      rw [lenOf_le hg hn]
      rfl
    ·cases h
   ·cases h
  | _ => first | (simp [clOf, clOp] at hq; done) | (simp [clOf, clOp] at hq; split at hq <;> cases hq)
 | _ => first | (simp [clOf, clOp] at hq; done) | (simp [clOf, clOp] at hq; split at hq <;> cases hq)
theorem stepV_ln {s : St} {o : Oper} {v : V} {s1 : St} (hq : clOf s.esc o = .l ∨ clOf s.esc o = .n) (h : stepV E s o = some (v, s1)) :
  (∀ (id : Nat) ob, s.g.objs[id]? = some ob → s1.g.objs[id]? = some ob) ∧ (∀ t, o.dst ≠ some t → s1.rg t = s.rg t) ∧
  (clOf s.esc o = .l → (∀ d, o.dst = some d → s.esc d = false) → s1.g = s.g) := by
 have push : ∀ ob (id : Nat) (x : Ob), s.g.objs[id]? = some x → (s.g.objs ++ [ob])[id]? = some x := by
  intro ob id x hx
  rw [List.getElem?_append_left (List.getElem?_eq_some_iff.1 hx).1]; exact hx
 have nv : ∀ {cs v s1}, s.newVar o.dst cs = some (v, s1) → (∀ (id : Nat) ob, s.g.objs[id]? = some ob → s1.g.objs[id]? = some ob) ∧ (∀ t, o.dst ≠ some t → s1.rg t = s.rg t) ∧
   ((∀ d, o.dst = some d → s.esc d = false) → s1.g = s.g) := by
  intro cs v s1 h
  unfold St.newVar at h
  split at h
  ·rename_i d hd
   split at h
   ·split at h
    ·rename_i he
     cases h
     refine ⟨fun id ob hx => push _ id ob hx, fun t _ => rfl, fun hh => ?_⟩
     rw [hh d hd] at he; cases he
    ·cases h
     refine ⟨fun id ob hx => hx, fun t ht => ?_, fun _ => rfl⟩
     simp only [upd]; rw [if_neg]
     intro e; exact ht (by rw [hd, e])
   ·cases h
  ·cases h
 have ap : ∀ {e x y v s1}, s.big o.dst = false → s.append E o.dst e x y = some (v, s1) → s1.g.objs = s.g.objs ∧ s1.rg = s.rg := by
  intro e x y v s1 hb h
  unfold St.append at h
  simp only [hb] at h
  (repeat' (split at h)) <;> first | (cases h; exact ⟨rfl, rfl⟩) | (exfalso; simp_all; done) | (cases h; done)
 obtain ⟨dst, op, type, pos, after, guard⟩ := o
 cases op with
 | alloc t =>
  simp only [stepV] at h; split at h
  ·exact ⟨(nv h).1, (nv h).2.1, fun _ => (nv h).2.2⟩
  ·cases h
 | box t x =>
  simp only [stepV] at h; split at h
  ·exact ⟨(nv h).1, (nv h).2.1, fun _ => (nv h).2.2⟩
  ·cases h
 | makeMap t r =>
  cases r with
  | none => simp only [stepV] at h; cases h; exact ⟨fun id ob hx => push _ id ob hx, fun _ _ => rfl, fun h => by simp [clOf, clOp] at h⟩
  | some r => simp [stepV] at h
 | buildSlice t len parts =>
  simp only [stepV] at h
  split at h
  ·split at h
   ·split at h
    ·cases h
    ·obtain ⟨x, hx, e⟩ := Option.map_eq_some_iff.1 h
     split at e
     ·cases e; exact ⟨fun id ob hx => push _ id ob hx, fun _ _ => rfl, fun h => by simp [clOf, clOp] at h; split at h <;> cases h⟩
     ·cases e; exact ⟨fun id ob hx => hx, fun _ _ => rfl, fun _ _ => rfl⟩
   ·cases h
  ·cases h
 | makeSlice t l c =>
  simp only [stepV] at h
  split at h
  ·split at h
   ·split at h
    ·cases h
    ·cases h; exact ⟨fun id ob hx => push _ id ob hx, fun _ _ => rfl, fun h => by simp [clOf, clOp] at h⟩
   ·cases h
  ·cases h
 | call c =>
  obtain ⟨callee, args, argTypes⟩ := c
  cases callee with
  | builtin b =>
   cases b <;> first | (simp [clOf, clOp] at hq; done) | (simp [clOf, clOp] at hq; split at hq <;> (cases hq; done)) | skip
   have hb : s.big dst = false := by
    rw [big_eq]
    cases h2 : bigOf s.esc dst with
    | false => rfl
    | true => simp [clOf, clOp, h2] at hq
   simp only [stepV] at h
   split at h <;> first | (split at h <;> first | (have := ap hb h; exact ⟨fun id ob hx => by rw [this.1]; exact hx, fun _ _ => by rw [this.2], fun h => by simp [clOf, clOp] at h; split at h <;> cases h⟩) | cases h) | cases h
  | _ => first | (simp [clOf, clOp] at hq; done) | (simp [clOf, clOp] at hq; split at hq <;> cases hq)
 | _ => first | (simp [clOf, clOp] at hq; done) | (simp [clOf, clOp] at hq; split at hq <;> cases hq)
end
end Go.Vm
set_option linter.unusedVariables false
set_option linter.unusedSimpArgs false
namespace Go.Vm
open Go
section
variable (E : Env) (cl : Nat → Bool) (ops : Array Oper)
inductive Do : Nat → St → St → Prop where
 | skip {i o s s'} : ops[i]? = some o → wants ops s o = some false → s.put o.dst .undef = some s' → Do i s s'
 | step {i o v s s1 s'} : ops[i]? = some o → wants ops s o = some true → stepV E s o = some (v, s1) → s1.put o.dst v = some s' → Do i s s'
 | call {i o f args v g s s'} : ops[i]? = some o → wants ops s o = some true → callOf E s o = some (f, args) → Ev E (.call f args s.g fun v' g' => v' = v ∧ g' = g) →
   (cl i = true → g = s.g) → St.put { s with g := g } o.dst v = some s' → Do i s s'
inductive Qt : Nat → St → V → Prop where
 | skip {i o s} : ops[i]? = some o → wants ops s o = some false → Qt i s .undef
 | step {i o v s} : ops[i]? = some o → wants ops s o = some true → stepV E s o = some (v, s) → Qt i s v
 | call {i o f args v s} : ops[i]? = some o → wants ops s o = some true → callOf E s o = some (f, args) → Ev E (.call f args s.g fun v' g' => v' = v ∧ g' = s.g) → Qt i s v
end
section
variable {E : Env} {cl : Nat → Bool} {ops : Array Oper}
theorem Do.ev {i : Nat} {l : List Nat} {s s' : St} {Q : St → Prop} (h : Do E cl ops i s s') (h2 : Ev E (.ops ops l s' Q)) : Ev E (.ops ops (i :: l) s Q) := by
 cases h with
 | skip a b c => exact .skipOp a b c h2
 | step a b c d => exact .step a b c d h2
 | @call o f args v g s s' a b c d e p =>
  refine .callOp _ (fun _ _ => s') a b c d (fun v' g' hh => ?_) (fun _ _ _ => h2)
  obtain ⟨rfl, rfl⟩ := hh
  exact p
theorem put_setT {s : St} {d : Nat} {u v : V} {dst : Option Tmp} (h : dst ≠ some d) : (s.setT d u).put dst v = (s.put dst v).map (·.setT d u) := by
 unfold St.put
 cases dst with
 | none => rfl
 | some t =>
  have hn : (s.setT d u).nt = s.nt := rfl
  simp only [hn]
  by_cases h1 : t < s.nt
  ·rw [if_pos h1, if_pos h1]
   simp only [Option.map_some, St.setT]
   congr 2
   funext x
   simp only [upd]
   by_cases hx : x = t
   ·subst hx
    have : x ≠ d := fun e => h (by rw [e])
    simp [this]
   ·simp [hx]
  ·rw [if_neg h1, if_neg h1]; rfl
theorem wants_setT {s : St} {d : Nat} {u : V} {o : Oper} (h : d ∉ o.looksAt ops) : wants ops (s.setT d u) o = wants ops s o := by
 unfold wants
 cases hg : o.guard with
 | none => rfl
 | some jw =>
  obtain ⟨j, w⟩ := jw
  simp only
  cases hd : (ops[j]?).bind (·.dst) with
  | none => rfl
  | some t =>
   have ht : t ≠ d := by
    intro e
    apply h
    simp only [Oper.looksAt, hg, hd, Option.toList_some, List.mem_append, List.mem_singleton]
    exact Or.inr e.symm
   simp only [St.setT, upd, if_neg ht]
theorem looks_op {o : Oper} {d : Nat} (h : d ∉ o.looksAt ops) : Operand.tmp d ∉ o.op.operands.toList := by
 intro hh
 apply h
 exact List.mem_append_left _ (List.mem_filterMap.2 ⟨.tmp d, by simpa using hh, rfl⟩)
theorem callOf_setT {s : St} {d : Nat} {u : V} {o : Oper} (h : Operand.tmp d ∉ o.op.operands.toList) : callOf E (s.setT d u) o = callOf E s o := by
 obtain ⟨dst, op, type, pos, after, guard⟩ := o
 cases op with
 | call c =>
  obtain ⟨callee, args, argTypes⟩ := c
  cases callee with
  | value f =>
   have h1 : (s.setT d u).ev E f = s.ev E f := ev_setT fun e => h (by subst e; simp [Op.operands, Call.operands])
   have h2 : evL E (s.setT d u) args.toList = evL E s args.toList := evL_setT fun hh => h (by
    simp only [Op.operands, Call.operands, Array.toList_append, List.mem_append]; exact Or.inr hh)
   simp only [callOf, h1, h2]
  | _ => rfl
 | _ => rfl
theorem Do.setT {k : Nat} {s s1 : St} {d : Nat} {u : V} {o : Oper} (ho : ops[k]? = some o) (hl : d ∉ o.looksAt ops) (hd : o.dst ≠ some d) (h : Do E cl ops k s s1) :
  Do E cl ops k (s.setT d u) (s1.setT d u) := by
 cases h with
 | skip a b c =>
  rw [ho] at a; cases a
  exact .skip ho (by rw [wants_setT hl]; exact b) (by rw [put_setT hd, c]; rfl)
 | step a b c p =>
  rw [ho] at a; cases a
  exact .step ho (by rw [wants_setT hl]; exact b) (by rw [stepV_setT (looks_op hl), c]; rfl) (by rw [put_setT hd, p]; rfl)
 | @call o f args v g s s' a b c e hc p =>
  rw [ho] at a; cases a
  refine .call ho (by rw [wants_setT hl]; exact b) (by rw [callOf_setT (looks_op hl)]; exact c) e hc ?_
  have : ({ (s.setT d u) with g := g } : St) = ({ s with g := g } : St).setT d u := rfl
  rw [this, put_setT hd, p]; rfl
theorem Do.unsetT {k : Nat} {s s2 : St} {d : Nat} {u : V} {o : Oper} (ho : ops[k]? = some o) (hl : d ∉ o.looksAt ops) (hd : o.dst ≠ some d) (h : Do E cl ops k (s.setT d u) s2) :
  ∃ s1, Do E cl ops k s s1 ∧ s2 = s1.setT d u := by
 generalize hs : s.setT d u = s0 at h
 cases h with
 | skip a b c =>
  subst hs
  rw [ho] at a; cases a
  rw [wants_setT hl] at b
  rw [put_setT hd] at c
  obtain ⟨s1, h1, h2⟩ := Option.map_eq_some_iff.1 c
  exact ⟨s1, .skip ho b h1, h2.symm⟩
 | step a b c p =>
  subst hs
  rw [ho] at a; cases a
  rw [wants_setT hl] at b
  rw [stepV_setT (looks_op hl)] at c
  obtain ⟨⟨v', s1⟩, h1, h2⟩ := Option.map_eq_some_iff.1 c
  simp only [aft, Prod.mk.injEq] at h2
  obtain ⟨rfl, rfl⟩ := h2
  rw [put_setT hd] at p
  obtain ⟨s3, h3, h4⟩ := Option.map_eq_some_iff.1 p
  exact ⟨s3, .step ho b h1 h3, h4.symm⟩
 | @call o f args v g s0 s' a b c e hc p =>
  subst hs
  rw [ho] at a; cases a
  rw [wants_setT hl] at b
  rw [callOf_setT (looks_op hl)] at c
  have : ({ (s.setT d u) with g := g } : St) = ({ s with g := g } : St).setT d u := rfl
  rw [this, put_setT hd] at p
  obtain ⟨s3, h3, h4⟩ := Option.map_eq_some_iff.1 p
  exact ⟨s3, .call ho b c e hc h3, h4.symm⟩
theorem Qt.to {i : Nat} {s s' : St} {v : V} {o : Oper} (ho : ops[i]? = some o) (h : Qt E ops i s v) (hp : s.put o.dst v = some s') : Do E cl ops i s s' := by
 cases h with
 | skip a b => rw [ho] at a; cases a; exact .skip ho b hp
 | step a b c => rw [ho] at a; cases a; exact .step ho b c hp
 | call a b c d => rw [ho] at a; cases a; exact .call ho b c d (fun _ => rfl) hp
theorem no_call_step {s : St} {o : Oper} {p : V × St} (hc : clOf s.esc o = .c) : stepV E s o ≠ some p := by
 intro c
 obtain ⟨dst, op, type, pos, after, guard⟩ := o
 cases op with
 | call c' =>
  obtain ⟨callee, args, argTypes⟩ := c'
  cases callee with
  | value f => simp [stepV] at c
  | builtin b => exfalso; clear c; cases b <;> simp [clOf, clOp] at hc; split at hc <;> cases hc
  | invoke => simp [clOf, clOp] at hc
 | _ => first | (simp [clOf, clOp] at hc; done) | (simp [clOf, clOp] at hc; split at hc <;> cases hc)
theorem Do.quiet {i : Nat} {s s' : St} {o : Oper} (ho : ops[i]? = some o) (hc : clOf s.esc o = .q ∨ clOf s.esc o = .r ∨ clOf s.esc o = .c ∧ cl i = true) (h : Do E cl ops i s s') :
  ∃ v, Qt E ops i s v ∧ s.put o.dst v = some s' := by
 cases h with
 | skip a b c => rw [ho] at a; cases a; exact ⟨_, .skip ho b, c⟩
 | @step o v s s1 s' a b c p =>
  rw [ho] at a; cases a
  have : s1 = s := by
   rcases hc with hc | hc | ⟨hc, _⟩
   ·exact stepV_q hc c
   ·exact (stepV_r hc c).1
   ·exact absurd c (no_call_step hc)
  subst this
  exact ⟨v, .step ho b c, p⟩
 | @call o f args v g s s' a b c e hcl p =>
  rw [ho] at a; cases a
  have hi : cl i = true := by
   rcases hc with hc | hc | ⟨_, hc⟩
   all_goals first | exact hc | skip
   all_goals
    exfalso
    obtain ⟨dst, op, type, pos, after, guard⟩ := o
    cases op with
    | call c' =>
     obtain ⟨callee, args, argTypes⟩ := c'
     cases callee with
     | value f => simp [clOf, clOp] at hc
     | _ => simp [callOf] at c
    | _ => simp [callOf] at c
  have := hcl hi
  subst this
  exact ⟨v, .call ho b c e, p⟩
theorem put_tm {s s' : St} {dst : Option Tmp} {v : V} (h : s.put dst v = some s') : (dst = none ∧ s' = s) ∨ ∃ d, dst = some d ∧ s' = s.setT d v ∧ d < s.nt := by
 unfold St.put at h
 cases dst with
 | none => cases h; exact Or.inl ⟨rfl, rfl⟩
 | some d =>
  simp only at h
  split at h
  ·rename_i hd; cases h; exact Or.inr ⟨d, rfl, rfl, hd⟩
  ·cases h
theorem Do.tm {k : Nat} {s s1 : St} {o : Oper} (ho : ops[k]? = some o) (h : Do E cl ops k s s1) :
  (∀ t, o.dst ≠ some t → s1.tm t = s.tm t) ∧ s1.nt = s.nt ∧ s1.esc = s.esc := by
 have pt : ∀ {a b : St} {v : V}, a.put o.dst v = some b → (∀ t, o.dst ≠ some t → b.tm t = a.tm t) ∧ b.nt = a.nt ∧ b.esc = a.esc := by
  intro a b v h
  rcases put_tm h with ⟨_, rfl⟩ | ⟨d, hd, rfl, _⟩
  ·exact ⟨fun _ _ => rfl, rfl, rfl⟩
  ·refine ⟨fun t ht => ?_, rfl, rfl⟩
   simp only [St.setT, upd]; rw [if_neg]; intro e; exact ht (by rw [hd, e])
 cases h with
 | skip a b c => rw [ho] at a; cases a; exact pt c
 | step a b c p =>
  rw [ho] at a; cases a
  have h1 := stepV_tm c
  have h2 := pt p
  exact ⟨fun t ht => by rw [h2.1 t ht, h1.1], by rw [h2.2.1, h1.2.1], by rw [h2.2.2, h1.2.2]⟩
 | call a b c e hc p => rw [ho] at a; cases a; have h2 := pt p; exact h2
theorem ev_agree {s s1 : St} {x : Operand} (h : ∀ d, x = .tmp d → s1.tm d = s.tm d) : s1.ev E x = s.ev E x := by
 cases x with
 | tmp t => simp only [St.ev]; rw [h t rfl]
 | _ => rfl
theorem wants_agree {s s1 : St} {o : Oper} (h : ∀ d ∈ o.looksAt ops, s1.tm d = s.tm d) (hn : s1.nt = s.nt) : wants ops s1 o = wants ops s o := by
 unfold wants
 cases hg : o.guard with
 | none => rfl
 | some jw =>
  obtain ⟨j, w⟩ := jw
  simp only
  cases hd : (ops[j]?).bind (·.dst) with
  | none => rfl
  | some t =>
   simp only [hn]
   rw [h t (by simp only [Oper.looksAt, hg, hd, Option.toList_some, List.mem_append, List.mem_singleton]; exact Or.inr trivial)]
theorem callOf_agree {s s1 : St} {o : Oper} (h : ∀ x ∈ o.op.operands.toList, s1.ev E x = s.ev E x) : callOf E s1 o = callOf E s o := by
 obtain ⟨dst, op, type, pos, after, guard⟩ := o
 cases op with
 | call c =>
  obtain ⟨callee, args, argTypes⟩ := c
  cases callee with
  | value f =>
   have h1 : s1.ev E f = s.ev E f := h f (by simp [Op.operands, Call.operands])
   have h2 : evL E s1 args.toList = evL E s args.toList := evL_congr fun x hh => h x (by
    simp only [Op.operands, Call.operands, Array.toList_append, List.mem_append]; exact Or.inr hh)
   simp only [callOf, h1, h2]
  | _ => rfl
 | _ => rfl
theorem Qt.agree {i : Nat} {s s1 : St} {v : V} {o : Oper} (ho : ops[i]? = some o) (h : Qt E ops i s v) (ht : ∀ d ∈ o.looksAt ops, s1.tm d = s.tm d) (hn : s1.nt = s.nt) (he : s1.esc = s.esc)
  (hm : clOf s.esc o = .q ∨ (clOf s.esc o = .r ∧ (∀ (id : Nat) ob, s.g.objs[id]? = some ob → s1.g.objs[id]? = some ob) ∧
   (∀ t g off, ∀ x ∈ o.op.operands.toList, s.ev E x = some (.loc t g off) → s1.rg t = s.rg t)) ∨ (clOf s.esc o = .c ∧ s1.g = s.g)) : Qt E ops i s1 v := by
 have hx : ∀ x ∈ o.op.operands.toList, s1.ev E x = s.ev E x := by
  intro x hx
  refine ev_agree fun d e => ht d ?_
  subst e
  exact List.mem_append_left _ (List.mem_filterMap.2 ⟨.tmp d, by simpa using hx, rfl⟩)
 cases h with
 | skip a b => rw [ho] at a; cases a; exact .skip ho (by rw [wants_agree ht hn]; exact b)
 | step a b c =>
  rw [ho] at a; cases a
  refine .step ho (by rw [wants_agree ht hn]; exact b) ?_
  rcases hm with hm | ⟨hm, h1, h2⟩ | ⟨hm, h1⟩
  ·rw [stepV_q_map hm he (fun hh => hx _ hh), c]; rfl
  ·exact (stepV_r hm c).2 s1 (fun hh => hx _ hh) h1 h2
  ·exact absurd c (no_call_step hm)
 | call a b c e =>
  rw [ho] at a; cases a
  have hg : s1.g = s.g := by
   rcases hm with hm | ⟨hm, _⟩ | ⟨_, hm⟩
   all_goals first | exact hm | skip
   all_goals
    exfalso
    obtain ⟨dst, op, type, pos, after, guard⟩ := o
    cases op with
    | call c' =>
     obtain ⟨callee, args, argTypes⟩ := c'
     cases callee with
     | value f => simp [clOf, clOp] at hm
     | _ => simp [callOf] at c
    | _ => simp [callOf] at c
  exact .call ho (by rw [wants_agree ht hn]; exact b) (by rw [callOf_agree hx]; exact c) (by rw [hg]; exact e)
end
end Go.Vm
set_option linter.unusedVariables false
set_option linter.unusedSimpArgs false
namespace Go.Vm
open Go
def St.setR (s : St) (d : Nat) (x : Option (Nat × List V)) : St := { s with rg := upd s.rg d x }
def aftR (d : Nat) (x : Option (Nat × List V)) (p : V × St) : V × St := (p.1, p.2.setR d x)
def near (esc : Nat → Bool) (o : Oper) : Bool :=
 match o.dst with
 | some d => !esc d
 | none => false
section
variable {E : Env} {s : St} {d : Nat} {u : Option (Nat × List V)}
theorem ev_setR {x : Operand} : (s.setR d u).ev E x = s.ev E x := by cases x <;> rfl
theorem evL_setR {l : List Operand} : evL E (s.setR d u) l = evL E s l := by
 induction l with
 | nil => rfl
 | cons x l ih => simp only [evL, ev_setR, ih]
theorem parts_setR {l : List (Nat × Operand)} : (s.setR d u).parts E l = s.parts E l := by
 induction l with
 | nil => rfl
 | cons x l ih => obtain ⟨i, x⟩ := x; simp only [St.parts, ev_setR, ih]
theorem append_setR {dst : Option Tmp} {e : TypeId} {x y : V} : (s.setR d u).append E dst e x y = (s.append E dst e x y).map (aftR d u) := by
 have hbg : (s.setR d u).big dst = s.big dst := rfl
 have hr : ∀ n v, (s.setR d u).rows n v = s.rows n v := fun n v => rfl
 have hg : (s.setR d u).g = s.g := rfl
 unfold St.append
 simp only [hr, hg, hbg]
 cases h1 : E.P.info? e with
 | none => rfl
 | some i =>
  cases h2 : zeroOf E e with
  | none => rfl
  | some z =>
   simp only
   cases h3 : s.rows i.size y with
   | none => rfl
   | some new =>
    cases new with
    | nil => simp only; split <;> rfl
    | cons r new =>
     simp only
     split
     ·rfl
     ·cases x with
      | p x => cases x <;> first | rfl | (simp only; repeat' split) <;> rfl
      | sl rows k => cases k <;> (simp only; repeat' split) <;> rfl
      | arr id off len cap m => simp only; (repeat' split) <;> rfl
      | _ => rfl
theorem upd_comm {α : Type} {f : Nat → α} {a b : Nat} {x y : α} (h : a ≠ b) : upd (upd f a x) b y = upd (upd f b y) a x := by
 funext t
 simp only [upd]
 by_cases h1 : t = b
 ·subst h1; rw [if_pos rfl, if_neg (fun e => h e.symm), if_pos rfl]
 ·rw [if_neg h1, if_neg h1]
theorem newVar_setR {dst : Option Tmp} {cs : List V} (hd : dst ≠ some d) : (s.setR d u).newVar dst cs = (s.newVar dst cs).map (aftR d u) := by
 unfold St.newVar
 cases dst with
 | none => rfl
 | some t =>
  have he : (s.setR d u).esc t = s.esc t := rfl
  have htd : t ≠ d := fun e => hd (by rw [e])
  simp only [he]
  by_cases h1 : cs.all one = true
  ·rw [if_pos h1, if_pos h1]
   by_cases h2 : s.esc t = true
   ·rw [if_pos h2, if_pos h2]; rfl
   ·rw [if_neg h2, if_neg h2]
    have : upd s.rg d u t = s.rg t := by simp only [upd, if_neg htd]
    simp only [Option.map_some, aftR, St.setR]
    rw [upd_comm (fun e => htd e.symm), this]
  ·rw [if_neg h1, if_neg h1]; rfl
theorem stepV_setR {o : Oper} (hc : clOf s.esc o = .n ∨ clOf s.esc o = .l) (hd : o.dst ≠ some d) : stepV E (s.setR d u) o = (stepV E s o).map (aftR d u) := by
 obtain ⟨dst, op, type, pos, after, guard⟩ := o
 cases op with
 | alloc t => simp only [stepV]; cases zeroOf E t with
  | none => rfl
  | some cs => exact newVar_setR hd
 | box t x => simp only [stepV]; rw [ev_setR]; cases s.ev E x with
  | none => rfl
  | some v => exact newVar_setR hd
 | makeMap t r => cases r <;> rfl
 | buildSlice t len parts =>
  simp only [stepV]; rw [parts_setR]
  split
  ·split
   ·rename_i n z ps _ _ _
    split
    ·rfl
    ·have hbg : (s.setR d u).big dst = s.big dst := rfl
     simp only [hbg]
     cases fillIn (fun i => some (i * n, n)) (List.replicate len z).flatten ps with
     | none => rfl
     | some cs => simp only [Option.map_some]; split <;> rfl
   ·rfl
  ·rfl
 | makeSlice t l c =>
  simp only [stepV]; rw [ev_setR, ev_setR]
  split
  ·split
   ·split <;> rfl
   ·rfl
  ·rfl
 | call c =>
  obtain ⟨callee, args, argTypes⟩ := c
  cases callee with
  | builtin b =>
   cases b <;> first | (simp [clOf, clOp] at hc; done) | (simp [clOf, clOp] at hc; split at hc <;> (simp at hc; done)) | skip
   simp only [stepV]; rw [evL_setR]
   split
   ·split
    ·exact append_setR
    ·exact append_setR
    ·rfl
   ·rfl
  | _ => simp [clOf, clOp] at hc
 | _ => first | (simp [clOf, clOp] at hc; done) | (simp [clOf, clOp] at hc; split at hc <;> (simp at hc; done))
theorem newVar_near {t : Nat} {cs : List V} {v : V} {s1 : St} (h : s.newVar (some t) cs = some (v, s1)) (he : s.esc t = false) :
  cs.all one = true ∧ v = .loc t (match s.rg t with | some (g, _) => g + 1 | none => 0) 0 ∧ s1 = s.setR t (some ((match s.rg t with | some (g, _) => g + 1 | none => 0), cs)) := by
 unfold St.newVar at h
 simp only [he] at h
 split at h
 ·rename_i h1
  simp only [Bool.false_eq_true, if_false] at h
  cases h
  exact ⟨h1, rfl, rfl⟩
 ·cases h
theorem near_step {o : Oper} {v : V} {s1 : St} (hc : clOf s.esc o = .l) (hn : near s.esc o = true) (h : stepV E s o = some (v, s1)) :
  ∃ t cs, o.dst = some t ∧ s1 = s.setR t (some ((match s.rg t with | some (g, _) => g + 1 | none => 0), cs)) ∧
   ∀ s' : St, s'.rg t = s.rg t → s'.esc = s.esc → (∀ x ∈ o.op.operands.toList, s'.ev E x = s.ev E x) → stepV E s' o = some (v, s'.setR t (some ((match s.rg t with | some (g, _) => g + 1 | none => 0), cs))) := by
 obtain ⟨dst, op, type, pos, after, guard⟩ := o
 unfold near at hn
 cases dst with
 | none => simp at hn
 | some t =>
  have he : s.esc t = false := by simpa using hn
  have again : ∀ (s' : St) cs, cs.all one = true → s'.rg t = s.rg t → s'.esc = s.esc →
    s'.newVar (some t) cs = some (.loc t (match s.rg t with | some (g, _) => g + 1 | none => 0) 0, s'.setR t (some ((match s.rg t with | some (g, _) => g + 1 | none => 0), cs))) := by
   intro s' cs h1 h2 h3
   unfold St.newVar
   simp only [h3, he, h1, h2, if_true, Bool.false_eq_true, if_false, St.setR]
   rfl
  cases op with
  | alloc ty =>
   simp only [stepV] at h
   cases hz : zeroOf E ty with
   | none => rw [hz] at h; cases h
   | some cs =>
    rw [hz] at h
    obtain ⟨h1, rfl, rfl⟩ := newVar_near h he
    refine ⟨t, cs, rfl, rfl, fun s' a b c => ?_⟩
    simp only [stepV, hz]
    exact again s' cs h1 a b
  | box ty x =>
   simp only [stepV] at h
   cases hz : s.ev E x with
   | none => rw [hz] at h; cases h
   | some y =>
    rw [hz] at h
    obtain ⟨h1, rfl, rfl⟩ := newVar_near h he
    refine ⟨t, cellsOf y, rfl, rfl, fun s' a b c => ?_⟩
    simp only [stepV, c x (by simp [Op.operands]), hz]
    exact again s' (cellsOf y) h1 a b
  | call c =>
   obtain ⟨callee, args, argTypes⟩ := c
   cases callee with
   | builtin b => cases b <;> first | (simp [clOf, clOp] at hc; done) | (simp [clOf, clOp] at hc; split at hc <;> (simp at hc; done))
   | _ => simp [clOf, clOp] at hc
  | _ => first | (simp [clOf, clOp] at hc; done) | (simp [clOf, clOp] at hc; split at hc <;> (simp at hc; done))
theorem put_setR {v : V} {dst : Option Tmp} : (s.setR d u).put dst v = (s.put dst v).map (·.setR d u) := by
 unfold St.put
 cases dst with
 | none => rfl
 | some t =>
  have hn : (s.setR d u).nt = s.nt := rfl
  simp only [hn]
  by_cases h1 : t < s.nt
  ·rw [if_pos h1, if_pos h1]; rfl
  ·rw [if_neg h1, if_neg h1]; rfl
end
end Go.Vm
set_option linter.unusedVariables false
set_option linter.unusedSimpArgs false
namespace Go.Vm
open Go
def addrOk (E : Env) (s : St) (a b : Oper) : Bool :=
 a.op.operands.toList.all fun x => match s.ev E x with
  | some (.loc t _ _) => b.dst != some t
  | _ => true
def St.bare (s : St) : St := { s with g := { s.g with objs := [] } }
def localOk (E : Env) (ops : Array Oper) (s : St) (a : Oper) : Bool :=
 match wants ops s a with
 | some true => (stepV E s.bare a).isSome
 | _ => true
def pairOk (E : Env) (cl : Nat → Bool) (ops : Array Oper) (s : St) (i k : Nat) (a b : Oper) : Bool :=
 a.apart ops b && match clOf s.esc a, clOf s.esc b with
 | .q, _ => true
 | _, .q => true
 | .r, .r => true
 | .r, .c => cl k || localOk E ops s a
 | .r, .l => addrOk E s a b
 | .r, .n => addrOk E s a b
 | .c, .r => cl i
 | .c, .c => cl i && cl k
 | .c, .l => cl i && match b.dst with
  | some d => !s.esc d
  | none => false
 | .l, .n => near s.esc a
 | .l, .l => near s.esc a || near s.esc b
 | .l, .c => near s.esc a
 | .n, .l => near s.esc b
 | _, _ => false
section
variable {E : Env} {cl : Nat → Bool} {ops : Array Oper}
theorem Do.mem {k : Nat} {s s1 : St} {b : Oper} (ho : ops[k]? = some b) (h : Do E cl ops k s s1)
  (hc : clOf s.esc b = .q ∨ clOf s.esc b = .r ∨ (clOf s.esc b = .c ∧ cl k = true) ∨ clOf s.esc b = .l ∨ clOf s.esc b = .n) :
  (∀ (id : Nat) ob, s.g.objs[id]? = some ob → s1.g.objs[id]? = some ob) ∧ (∀ t, b.dst ≠ some t → s1.rg t = s.rg t) ∧
  (clOf s.esc b = .q ∨ clOf s.esc b = .r ∨ clOf s.esc b = .c ∨ (clOf s.esc b = .l ∧ ∀ d, b.dst = some d → s.esc d = false) → s1.g = s.g) := by
 have same : (clOf s.esc b = .q ∨ clOf s.esc b = .r ∨ clOf s.esc b = .c ∧ cl k = true) → s1.g = s.g ∧ s1.rg = s.rg := by
  intro hq
  obtain ⟨v, _, hp⟩ := h.quiet ho hq
  rcases put_tm hp with ⟨_, rfl⟩ | ⟨d, _, rfl, _⟩ <;> exact ⟨rfl, rfl⟩
 have one : (clOf s.esc b = .l ∨ clOf s.esc b = .n) → (∀ (id : Nat) ob, s.g.objs[id]? = some ob → s1.g.objs[id]? = some ob) ∧ (∀ t, b.dst ≠ some t → s1.rg t = s.rg t) ∧
   (clOf s.esc b = .l → (∀ d, b.dst = some d → s.esc d = false) → s1.g = s.g) := by
  intro hq
  cases h with
  | skip a _ c =>
   rw [ho] at a; cases a
   rcases put_tm c with ⟨_, rfl⟩ | ⟨d, _, rfl, _⟩ <;> exact ⟨fun _ _ h => h, fun _ _ => rfl, fun _ _ => rfl⟩
  | step a _ c p =>
   rw [ho] at a; cases a
   have := stepV_ln hq c
   rcases put_tm p with ⟨_, rfl⟩ | ⟨d, _, rfl, _⟩ <;> exact this
  | call a _ c _ _ _ =>
   rw [ho] at a; cases a
   exfalso
   obtain ⟨dst, op, type, pos, after, guard⟩ := b
   cases op with
   | call c' =>
    obtain ⟨callee, args, argTypes⟩ := c'
    cases callee with
    | value f => simp [clOf, clOp] at hq
    | _ => simp [callOf] at c
   | _ => simp [callOf] at c
 have hsame : ∀ hq : (clOf s.esc b = .q ∨ clOf s.esc b = .r ∨ clOf s.esc b = .c ∧ cl k = true), _ := fun hq => And.intro (fun (id : Nat) ob (h : s.g.objs[id]? = some ob) => show s1.g.objs[id]? = some ob by rw [(same hq).1]; exact h)
  (And.intro (fun t (_ : b.dst ≠ some t) => show s1.rg t = s.rg t by rw [(same hq).2]) (fun (_ : clOf s.esc b = .q ∨ clOf s.esc b = .r ∨ clOf s.esc b = .c ∨ (clOf s.esc b = .l ∧ ∀ d, b.dst = some d → s.esc d = false)) => (same hq).1))
 rcases hc with hc | hc | hc | hc | hc
 ·exact hsame (Or.inl hc)
 ·exact hsame (Or.inr (Or.inl hc))
 ·exact hsame (Or.inr (Or.inr hc))
 ·refine ⟨(one (Or.inl hc)).1, (one (Or.inl hc)).2.1, fun hh => ?_⟩
  rw [hc] at hh
  rcases hh with hh | hh | hh | ⟨_, hh⟩
  ·cases hh
  ·cases hh
  ·cases hh
  ·exact (one (Or.inl hc)).2.2 hc hh
 ·refine ⟨(one (Or.inr hc)).1, (one (Or.inr hc)).2.1, fun hh => ?_⟩
  rw [hc] at hh
  rcases hh with hh | hh | hh | ⟨hh, _⟩ <;> cases hh
theorem swapA {i k : Nat} {s s' s'' : St} {a b : Oper} (ha : ops[i]? = some a) (hb : ops[k]? = some b) (hap : a.apart ops b = true) (h1 : Do E cl ops i s s') (h2 : Do E cl ops k s' s'')
  (hq : clOf s.esc a = .q ∨ clOf s.esc a = .r ∨ clOf s.esc a = .c ∧ cl i = true)
  (hm : ∀ s1, Do E cl ops k s s1 → clOf s.esc a = .q ∨ (clOf s.esc a = .r ∧ (∀ (id : Nat) ob, s.g.objs[id]? = some ob → s1.g.objs[id]? = some ob) ∧
   (∀ t g off, ∀ x ∈ a.op.operands.toList, s.ev E x = some (.loc t g off) → s1.rg t = s.rg t)) ∨ (clOf s.esc a = .c ∧ s1.g = s.g)) :
  ∃ s1, Do E cl ops k s s1 ∧ Do E cl ops i s1 s'' := by
 obtain ⟨p1, p2, p3⟩ := Oper.apart_spec hap
 obtain ⟨v, hv, hp⟩ := h1.quiet ha hq
 have fin : ∀ s1, Do E cl ops k s s1 → Qt E ops i s1 v := by
  intro s1 hk
  have ht := hk.tm hb
  exact hv.agree ha (fun d hd => ht.1 d fun e => p3 d e hd) ht.2.1 ht.2.2 (hm s1 hk)
 rcases put_tm hp with ⟨hd, rfl⟩ | ⟨d, hd, rfl, hlt⟩
 ·exact ⟨s'', h2, (fin s'' h2).to ha (by unfold St.put; rw [hd])⟩
 ·obtain ⟨s1, hk, rfl⟩ := h2.unsetT hb (p1 d hd) (p2 d hd)
  refine ⟨s1, hk, (fin s1 hk).to ha ?_⟩
  have := (hk.tm hb).2.1
  unfold St.put
  rw [hd]
  simp only
  rw [if_pos (by rw [this]; exact hlt)]
  rfl
theorem swapB {i k : Nat} {s s' s'' : St} {a b : Oper} (ha : ops[i]? = some a) (hb : ops[k]? = some b) (hap : a.apart ops b = true) (h1 : Do E cl ops i s s') (h2 : Do E cl ops k s' s'')
  (hq : clOf s.esc b = .q) : ∃ s1, Do E cl ops k s s1 ∧ Do E cl ops i s1 s'' := by
 obtain ⟨p1, p2, p3⟩ := Oper.apart_spec hap
 have ht := h1.tm ha
 have hq' : clOf s'.esc b = .q := by rw [ht.2.2]; exact hq
 obtain ⟨v, hv, hp⟩ := h2.quiet hb (Or.inl hq')
 have hv' : Qt E ops k s v := hv.agree hb (fun d hd => ((ht.1 d fun e => p1 d e hd)).symm) ht.2.1.symm ht.2.2.symm (Or.inl hq')
 rcases put_tm hp with ⟨hd, rfl⟩ | ⟨d, hd, rfl, hlt⟩
 ·exact ⟨s, hv'.to hb (by unfold St.put; rw [hd]), h1⟩
 ·refine ⟨s.setT d v, hv'.to hb ?_, h1.setT ha (p3 d hd) fun e => p2 d e hd⟩
  unfold St.put
  rw [hd]
  simp only
  rw [if_pos (by rw [← ht.2.1]; exact hlt)]
  rfl
theorem callOf_setR {s : St} {d : Nat} {u : Option (Nat × List V)} {o : Oper} : callOf E (s.setR d u) o = callOf E s o := by
 obtain ⟨dst, op, type, pos, after, guard⟩ := o
 cases op with
 | call c =>
  obtain ⟨callee, args, argTypes⟩ := c
  cases callee with
  | value f => simp only [callOf, ev_setR, evL_setR]
  | _ => rfl
 | _ => rfl
theorem Do.setR {k : Nat} {s s1 : St} {d : Nat} {u : Option (Nat × List V)} {o : Oper} (ho : ops[k]? = some o) (hc : clOf s.esc o = .n ∨ clOf s.esc o = .l ∨ clOf s.esc o = .c) (hd : o.dst ≠ some d) (h : Do E cl ops k s s1) :
  Do E cl ops k (s.setR d u) (s1.setR d u) := by
 cases h with
 | skip a b c =>
  rw [ho] at a; cases a
  exact .skip ho b (by rw [put_setR, c]; rfl)
 | step a b c p =>
  rw [ho] at a; cases a
  have hc' : clOf s.esc o = .n ∨ clOf s.esc o = .l := by
   rcases hc with hc | hc | hc
   ·exact Or.inl hc
   ·exact Or.inr hc
   ·exact absurd c (no_call_step hc)
  exact .step ho b (by rw [stepV_setR hc' hd, c]; rfl) (by rw [put_setR, p]; rfl)
 | @call o f args v g s s' a b c e hcl p =>
  rw [ho] at a; cases a
  refine .call ho b (by rw [callOf_setR]; exact c) e hcl ?_
  have : ({ (s.setR d u) with g := g } : St) = ({ s with g := g } : St).setR d u := rfl
  rw [this, put_setR, p]; rfl
theorem Do.unsetR {k : Nat} {s s2 : St} {d : Nat} {u : Option (Nat × List V)} {o : Oper} (ho : ops[k]? = some o) (hc : clOf s.esc o = .n ∨ clOf s.esc o = .l ∨ clOf s.esc o = .c) (hd : o.dst ≠ some d) (h : Do E cl ops k (s.setR d u) s2) :
  ∃ s1, Do E cl ops k s s1 ∧ s2 = s1.setR d u := by
 generalize hs : s.setR d u = s0 at h
 cases h with
 | skip a b c =>
  subst hs
  rw [ho] at a; cases a
  rw [put_setR] at c
  obtain ⟨s1, h1, h2⟩ := Option.map_eq_some_iff.1 c
  exact ⟨s1, .skip ho b h1, h2.symm⟩
 | step a b c p =>
  subst hs
  rw [ho] at a; cases a
  have hc' : clOf s.esc o = .n ∨ clOf s.esc o = .l := by
   rcases hc with hc | hc | hc
   ·exact Or.inl hc
   ·exact Or.inr hc
   ·exact absurd c (no_call_step hc)
  rw [stepV_setR hc' hd] at c
  obtain ⟨⟨v', s1⟩, h1, h2⟩ := Option.map_eq_some_iff.1 c
  simp only [aftR, Prod.mk.injEq] at h2
  obtain ⟨rfl, rfl⟩ := h2
  rw [put_setR] at p
  obtain ⟨s3, h3, h4⟩ := Option.map_eq_some_iff.1 p
  exact ⟨s3, .step ho b h1 h3, h4.symm⟩
 | @call o f args v g s0 s' a b c e hcl p =>
  subst hs
  rw [ho] at a; cases a
  rw [callOf_setR] at c
  have : ({ (s.setR d u) with g := g } : St) = ({ s with g := g } : St).setR d u := rfl
  rw [this, put_setR] at p
  obtain ⟨s3, h3, h4⟩ := Option.map_eq_some_iff.1 p
  exact ⟨s3, .call ho b c e hcl h3, h4.symm⟩
theorem Do.rgs {k : Nat} {s s1 : St} {o : Oper} (ho : ops[k]? = some o) (hc : clOf s.esc o = .n ∨ clOf s.esc o = .l ∨ clOf s.esc o = .c) (h : Do E cl ops k s s1) : ∀ t, o.dst ≠ some t → s1.rg t = s.rg t := by
 have pt : ∀ {a b : St} {v : V}, a.put o.dst v = some b → b.rg = a.rg := by
  intro a b v h
  rcases put_tm h with ⟨_, rfl⟩ | ⟨d, _, rfl, _⟩ <;> rfl
 intro t ht
 cases h with
 | skip a b c => rw [ho] at a; cases a; rw [pt c]
 | step a b c p =>
  rw [ho] at a; cases a
  have hc' : clOf s.esc o = .l ∨ clOf s.esc o = .n := by
   rcases hc with hc | hc | hc
   ·exact Or.inr hc
   ·exact Or.inl hc
   ·exact absurd c (no_call_step hc)
  rw [pt p, (stepV_ln hc' c).2.1 t ht]
 | call a b c e hcl p => rw [ho] at a; cases a; rw [pt p]
theorem swapSkipA {i k : Nat} {s s' s'' : St} {a b : Oper} (ha : ops[i]? = some a) (hb : ops[k]? = some b) (hap : a.apart ops b = true) (hw : wants ops s a = some false) (hp : s.put a.dst .undef = some s') (h2 : Do E cl ops k s' s'') :
  ∃ s1, Do E cl ops k s s1 ∧ Do E cl ops i s1 s'' := by
 obtain ⟨p1, p2, p3⟩ := Oper.apart_spec hap
 have fin : ∀ s1, Do E cl ops k s s1 → wants ops s1 a = some false := by
  intro s1 hk
  have ht := hk.tm hb
  rw [wants_agree (fun d hd => ht.1 d fun e => p3 d e hd) ht.2.1]; exact hw
 rcases put_tm hp with ⟨hd, rfl⟩ | ⟨d, hd, rfl, hlt⟩
 ·exact ⟨s'', h2, .skip ha (fin s'' h2) (by unfold St.put; rw [hd])⟩
 ·obtain ⟨s1, hk, rfl⟩ := h2.unsetT hb (p1 d hd) (p2 d hd)
  refine ⟨s1, hk, .skip ha (fin s1 hk) ?_⟩
  have := (hk.tm hb).2.1
  unfold St.put
  rw [hd]
  simp only
  rw [if_pos (by rw [this]; exact hlt)]
  rfl
theorem swapSkipB {i k : Nat} {s s' s'' : St} {a b : Oper} (ha : ops[i]? = some a) (hb : ops[k]? = some b) (hap : a.apart ops b = true) (h1 : Do E cl ops i s s') (hw : wants ops s' b = some false) (hp : s'.put b.dst .undef = some s'') :
  ∃ s1, Do E cl ops k s s1 ∧ Do E cl ops i s1 s'' := by
 obtain ⟨p1, p2, p3⟩ := Oper.apart_spec hap
 have ht := h1.tm ha
 have hw' : wants ops s b = some false := by
  rw [← wants_agree (fun d hd => ht.1 d fun e => p1 d e hd) ht.2.1]; exact hw
 rcases put_tm hp with ⟨hd, rfl⟩ | ⟨d, hd, rfl, hlt⟩
 ·exact ⟨s, .skip hb hw' (by unfold St.put; rw [hd]), h1⟩
 ·refine ⟨s.setT d .undef, .skip hb hw' ?_, h1.setT ha (p3 d hd) fun e => p2 d e hd⟩
  unfold St.put
  rw [hd]
  simp only
  rw [if_pos (by rw [← ht.2.1]; exact hlt)]
  rfl
theorem put_some {s : St} {t : Nat} {v : V} (h : t < s.nt) : s.put (some t) v = some (s.setT t v) := by
 unfold St.put; simp only [h, if_true]; rfl
theorem swapL {i k : Nat} {s s' s'' : St} {a b : Oper} (ha : ops[i]? = some a) (hb : ops[k]? = some b) (hap : a.apart ops b = true) (h1 : Do E cl ops i s s') (h2 : Do E cl ops k s' s'')
  (hca : clOf s.esc a = .l) (hn : near s.esc a = true) (hcb : clOf s.esc b = .n ∨ clOf s.esc b = .l ∨ clOf s.esc b = .c) : ∃ s1, Do E cl ops k s s1 ∧ Do E cl ops i s1 s'' := by
 cases h1 with
 | skip x hw hp => rw [ha] at x; cases x; exact swapSkipA ha hb hap hw hp h2
 | @step _ v _ s1 _ x hw hst hp =>
  rw [ha] at x; cases x
  obtain ⟨p1, p2, p3⟩ := Oper.apart_spec hap
  obtain ⟨t, cs, hd, rfl, hre⟩ := near_step (E := E) hca hn hst
  rw [hd] at hp
  obtain ⟨_, hd', rfl, hlt⟩ := (put_tm hp).resolve_left fun h => by cases h.1
  cases hd'
  obtain ⟨s2, hk2, rfl⟩ := h2.unsetT hb (p1 t hd) (p2 t hd)
  obtain ⟨s3, hk3, rfl⟩ := hk2.unsetR hb hcb (p2 t hd)
  have ht := hk3.tm hb
  have hrg := hk3.rgs hb hcb t (p2 t hd)
  refine ⟨s3, hk3, .step ha (by rw [wants_agree (fun d hd => ht.1 d fun e => p3 d e hd) ht.2.1]; exact hw) (hre s3 hrg ht.2.2 fun x hx => ev_agree fun d e => ht.1 d fun e' => p3 d e' ?_) ?_⟩
  ·subst e
   exact List.mem_append_left _ (List.mem_filterMap.2 ⟨.tmp d, by simpa using hx, rfl⟩)
  ·rw [hd, put_some (by show t < s3.nt; rw [ht.2.1]; exact hlt)]
 | call x hw hcl _ _ _ =>
  rw [ha] at x; cases x
  exfalso
  obtain ⟨dst, op, type, pos, after, guard⟩ := a
  cases op with
  | call c' =>
   obtain ⟨callee, args, argTypes⟩ := c'
   cases callee with
   | value f => simp [clOf, clOp] at hca
   | _ => simp [callOf] at hcl
  | _ => simp [callOf] at hcl
theorem swapN {i k : Nat} {s s' s'' : St} {a b : Oper} (ha : ops[i]? = some a) (hb : ops[k]? = some b) (hap : a.apart ops b = true) (h1 : Do E cl ops i s s') (h2 : Do E cl ops k s' s'')
  (hca : clOf s.esc a = .n ∨ clOf s.esc a = .l) (hcb : clOf s.esc b = .l) (hn : near s.esc b = true) : ∃ s1, Do E cl ops k s s1 ∧ Do E cl ops i s1 s'' := by
 have hta := h1.tm ha
 cases h2 with
 | skip x hw hp => rw [hb] at x; cases x; exact swapSkipB ha hb hap h1 hw hp
 | @step _ v _ s1 _ x hw hst hp =>
  rw [hb] at x; cases x
  obtain ⟨p1, p2, p3⟩ := Oper.apart_spec hap
  have hca3 : clOf s.esc a = .n ∨ clOf s.esc a = .l ∨ clOf s.esc a = .c := by rcases hca with h | h <;> simp [h]
  obtain ⟨t, cs, hd, rfl, hre⟩ := near_step (E := E) (s := s') (by rw [hta.2.2]; exact hcb) (by rw [hta.2.2]; exact hn) hst
  have hne : a.dst ≠ some t := fun e => p2 t e hd
  have hrg := h1.rgs ha hca3 t hne
  rw [hd] at hp
  obtain ⟨_, hd', rfl, hlt⟩ := (put_tm hp).resolve_left fun h => by cases h.1
  cases hd'
  have hlt' : t < s.nt := by rw [← hta.2.1]; exact hlt
  refine ⟨_, .step (s' := (s.setR t (some ((match s'.rg t with | some (g, _) => g + 1 | none => 0), cs))).setT t v) hb (by rw [← wants_agree (fun d hd => hta.1 d fun e => p1 d e hd) hta.2.1]; exact hw)
   (hre s hrg.symm hta.2.2.symm fun x hx => (ev_agree fun d e => hta.1 d fun e' => p1 d e' ?_).symm) ?_, ?_⟩
  ·subst e
   exact List.mem_append_left _ (List.mem_filterMap.2 ⟨.tmp d, by simpa using hx, rfl⟩)
  ·rw [hd]; exact put_some hlt'
  ·exact (h1.setR ha hca3 hne).setT ha (p3 t hd) hne
 | call x hw hcl _ _ _ =>
  rw [hb] at x; cases x
  exfalso
  obtain ⟨dst, op, type, pos, after, guard⟩ := b
  cases op with
  | call c' =>
   obtain ⟨callee, args, argTypes⟩ := c'
   cases callee with
   | value f => simp [clOf, clOp] at hcb
   | _ => simp [callOf] at hcl
  | _ => simp [callOf] at hcl
theorem swapLo {i k : Nat} {s s' s'' : St} {a b : Oper} (ha : ops[i]? = some a) (hb : ops[k]? = some b) (hap : a.apart ops b = true) (h1 : Do E cl ops i s s') (h2 : Do E cl ops k s' s'')
  (hca : clOf s.esc a = .r) (hcb : clOf s.esc b = .c) (hlo : localOk E ops s a = true) : ∃ s1, Do E cl ops k s s1 ∧ Do E cl ops i s1 s'' := by
 cases h1 with
 | skip x hw hp => rw [ha] at x; cases x; exact swapSkipA ha hb hap hw hp h2
 | @step _ v _ s1 _ x hw hst hp =>
  rw [ha] at x; cases x
  obtain ⟨p1, p2, p3⟩ := Oper.apart_spec hap
  unfold localOk at hlo
  rw [hw] at hlo
  simp only at hlo
  obtain ⟨⟨v', sb⟩, hsb⟩ := Option.isSome_iff_exists.1 hlo
  have hca' : clOf s.bare.esc a = .r := hca
  obtain ⟨rfl, hgo⟩ := stepV_r hca' hsb
  have any : ∀ s' : St, (∀ x ∈ a.op.operands.toList, s'.ev E x = s.ev E x) → s'.rg = s.rg → stepV E s' a = some (v', s') := by
   intro s' hx hr
   refine hgo s' (fun {x} hh => ?_) (fun id ob hh => by simp [St.bare] at hh) (fun t g off x hh e => by rw [hr]; rfl)
   rw [hx x hh]; cases x <;> rfl
  have hv := any s (fun _ _ => rfl) rfl
  rw [hst] at hv
  simp only [Option.some.injEq, Prod.mk.injEq] at hv
  obtain ⟨rfl, rfl⟩ := hv
  have fin : ∀ s2, Do E cl ops k s1 s2 → Qt E ops i s2 v := by
   intro s2 hk
   have ht := hk.tm hb
   refine .step ha (by rw [wants_agree (fun d hd => ht.1 d fun e => p3 d e hd) ht.2.1]; exact hw) (any s2 (fun x hx => ev_agree fun d e => ht.1 d fun e' => p3 d e' ?_) ?_)
   ·subst e
    exact List.mem_append_left _ (List.mem_filterMap.2 ⟨.tmp d, by simpa using hx, rfl⟩)
   ·have pt : ∀ {a c : St} {v : V}, a.put b.dst v = some c → c.rg = a.rg := by
     intro a c v h
     rcases put_tm h with ⟨_, rfl⟩ | ⟨d, _, rfl, _⟩ <;> rfl
    cases hk with
    | skip x _ c => rw [hb] at x; cases x; rw [pt c]
    | step x _ c _ => rw [hb] at x; cases x; exact absurd c (no_call_step hcb)
    | call x _ _ _ _ p => rw [hb] at x; cases x; rw [pt p]
  rcases put_tm hp with ⟨hd, rfl⟩ | ⟨d, hd, rfl, hlt⟩
  ·exact ⟨s'', h2, (fin s'' h2).to ha (by unfold St.put; rw [hd])⟩
  ·obtain ⟨s2, hk, rfl⟩ := h2.unsetT hb (p1 d hd) (p2 d hd)
   refine ⟨s2, hk, (fin s2 hk).to ha ?_⟩
   rw [hd]; exact put_some (by rw [(hk.tm hb).2.1]; exact hlt)
 | call x hw hcl _ _ _ =>
  rw [ha] at x; cases x
  exfalso
  obtain ⟨dst, op, type, pos, after, guard⟩ := a
  cases op with
  | call c' =>
   obtain ⟨callee, args, argTypes⟩ := c'
   cases callee with
   | value f => simp [clOf, clOp] at hca
   | _ => simp [callOf] at hcl
  | _ => simp [callOf] at hcl
theorem swap {i k : Nat} {s s' s'' : St} {a b : Oper} (ha : ops[i]? = some a) (hb : ops[k]? = some b) (h1 : Do E cl ops i s s') (h2 : Do E cl ops k s' s'')
  (hok : pairOk E cl ops s i k a b = true) : ∃ s1, Do E cl ops k s s1 ∧ Do E cl ops i s1 s'' := by
 unfold pairOk at hok
 rw [Bool.and_eq_true] at hok
 obtain ⟨hap, hok⟩ := hok
 have ad : addrOk E s a b = true → ∀ t g off, ∀ x ∈ a.op.operands.toList, s.ev E x = some (.loc t g off) → b.dst ≠ some t := by
  intro h t g off x hx e
  have := List.all_eq_true.1 h x hx
  simp only [e] at this
  simpa using this
 cases hca : clOf s.esc a with
 | q => exact swapA ha hb hap h1 h2 (Or.inl hca) fun _ _ => Or.inl hca
 | r =>
  cases hcb : clOf s.esc b with
  | q => exact swapB ha hb hap h1 h2 hcb
  | r =>
   refine swapA ha hb hap h1 h2 (Or.inr (Or.inl hca)) fun s1 hk => Or.inr (Or.inl ⟨hca, ?_⟩)
   obtain ⟨v, _, hp⟩ := hk.quiet hb (Or.inr (Or.inl hcb))
   rcases put_tm hp with ⟨_, rfl⟩ | ⟨d, _, rfl, _⟩ <;> exact ⟨fun _ _ h => h, fun _ _ _ _ _ _ => rfl⟩
  | c =>
   rw [hca, hcb] at hok
   simp only [Bool.or_eq_true] at hok
   rcases hok with hok | hok
   ·refine swapA ha hb hap h1 h2 (Or.inr (Or.inl hca)) fun s1 hk => Or.inr (Or.inl ⟨hca, ?_⟩)
    obtain ⟨v, _, hp⟩ := hk.quiet hb (Or.inr (Or.inr ⟨hcb, hok⟩))
    rcases put_tm hp with ⟨_, rfl⟩ | ⟨d, _, rfl, _⟩ <;> exact ⟨fun _ _ h => h, fun _ _ _ _ _ _ => rfl⟩
   ·exact swapLo ha hb hap h1 h2 hca hcb hok
  | l =>
   rw [hca, hcb] at hok
   refine swapA ha hb hap h1 h2 (Or.inr (Or.inl hca)) fun s1 hk => Or.inr (Or.inl ⟨hca, ?_⟩)
   have := hk.mem hb (Or.inr (Or.inr (Or.inr (Or.inl hcb))))
   exact ⟨this.1, fun t g off x hx e => this.2.1 t (ad hok t g off x hx e)⟩
  | n =>
   rw [hca, hcb] at hok
   refine swapA ha hb hap h1 h2 (Or.inr (Or.inl hca)) fun s1 hk => Or.inr (Or.inl ⟨hca, ?_⟩)
   have := hk.mem hb (Or.inr (Or.inr (Or.inr (Or.inr hcb))))
   exact ⟨this.1, fun t g off x hx e => this.2.1 t (ad hok t g off x hx e)⟩
  | w => rw [hca, hcb] at hok; cases hok
 | c =>
  cases hcb : clOf s.esc b with
  | q => exact swapB ha hb hap h1 h2 hcb
  | r =>
   rw [hca, hcb] at hok
   refine swapA ha hb hap h1 h2 (Or.inr (Or.inr ⟨hca, hok⟩)) fun s1 hk => Or.inr (Or.inr ⟨hca, ?_⟩)
   exact (hk.mem hb (Or.inr (Or.inl hcb))).2.2 (Or.inr (Or.inl hcb))
  | c =>
   rw [hca, hcb] at hok
   simp only [Bool.and_eq_true] at hok
   refine swapA ha hb hap h1 h2 (Or.inr (Or.inr ⟨hca, hok.1⟩)) fun s1 hk => Or.inr (Or.inr ⟨hca, ?_⟩)
   exact (hk.mem hb (Or.inr (Or.inr (Or.inl ⟨hcb, hok.2⟩)))).2.2 (Or.inr (Or.inr (Or.inl hcb)))
  | l =>
   rw [hca, hcb] at hok
   simp only [Bool.and_eq_true] at hok
   refine swapA ha hb hap h1 h2 (Or.inr (Or.inr ⟨hca, hok.1⟩)) fun s1 hk => Or.inr (Or.inr ⟨hca, ?_⟩)
   refine (hk.mem hb (Or.inr (Or.inr (Or.inr (Or.inl hcb))))).2.2 (Or.inr (Or.inr (Or.inr ⟨hcb, fun d hd => ?_⟩)))
   have := hok.2
   rw [hd] at this
   simpa using this
  | n => rw [hca, hcb] at hok; cases hok
  | w => rw [hca, hcb] at hok; cases hok
 | l =>
  cases hcb : clOf s.esc b with
  | q => exact swapB ha hb hap h1 h2 hcb
  | n => rw [hca, hcb] at hok; exact swapL ha hb hap h1 h2 hca hok (Or.inl hcb)
  | c => rw [hca, hcb] at hok; exact swapL ha hb hap h1 h2 hca hok (Or.inr (Or.inr hcb))
  | l =>
   rw [hca, hcb] at hok
   simp only [Bool.or_eq_true] at hok
   rcases hok with hok | hok
   ·exact swapL ha hb hap h1 h2 hca hok (Or.inr (Or.inl hcb))
   ·exact swapN ha hb hap h1 h2 (Or.inr hca) hcb hok
  | _ => rw [hca, hcb] at hok; cases hok
 | n =>
  cases hcb : clOf s.esc b with
  | q => exact swapB ha hb hap h1 h2 hcb
  | l => rw [hca, hcb] at hok; exact swapN ha hb hap h1 h2 (Or.inl hca) hcb hok
  | _ => rw [hca, hcb] at hok; cases hok
 | w =>
  cases hcb : clOf s.esc b with
  | q => exact swapB ha hb hap h1 h2 hcb
  | _ => rw [hca, hcb] at hok; cases hok
end
end Go.Vm
