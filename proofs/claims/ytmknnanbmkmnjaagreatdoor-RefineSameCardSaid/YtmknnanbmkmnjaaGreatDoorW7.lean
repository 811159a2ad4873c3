/- Part 7 of the texts that the claim leans on: a judgement on the program over plain values, its soundness, and contracts of functions. -/
import Derived.Test.YtmknnanbmkmnjaaGreatDoorW6
import Derived.Test.YtmknnanbmkmnjaaGreatDoorProg
import Derived.KernelRfl
set_option linter.unusedVariables false
set_option linter.unusedSimpArgs false
set_option linter.unusedVariables false
namespace Go.Vm
open Go
section
variable {E : Env} {nt : Nat} {esc : Nat → Bool}
theorem put_fr {x y : Fr} {dst : Option Tmp} {v : V} (h : x.put nt dst v = some y) : (x.st nt esc).put dst v = some (y.st nt esc) := by
 unfold Fr.put at h
 cases dst with
 | none => cases h; rfl
 | some d =>
  simp only at h
  cases hc : Nat.blt d nt && Nat.blt d 4000 with
  | false => rw [hc] at h; cases h
  | true =>
   rw [hc] at h
   cases h
   simp only [Bool.and_eq_true] at hc
   have h1 : d < nt := Nat.le_of_ble_eq_true hc.1
   have h2 : @LT.lt Nat _ d 4000 := Nat.le_of_ble_eq_true hc.2
   unfold St.put
   simp only
   rw [if_pos (show d < (x.st nt esc).nt from h1)]
   simp only [Fr.st]
   congr 2
   funext t
   rw [Tr.get_set _ _ _ _ _ (Nat.lt_of_le_of_lt h2 (by decide))]
   rfl
theorem stepV_rgKey {s s1 : St} {o : Oper} {v : V} (h : stepV E s o = some (v, s1)) : ∀ t, rgKey E s o ≠ some t → s1.rg t = s.rg t := by
 have nv : ∀ {dst cs v s1}, s.newVar dst cs = some (v, s1) → ∀ t, dst ≠ some t → s1.rg t = s.rg t := by
  intro dst cs v s1 h t ht
  unfold St.newVar at h
  split at h
  ·rename_i d
   split at h
   ·split at h
    ·cases h; rfl
    ·cases h
     simp only [upd]
     rw [if_neg (fun e => ht (by rw [e]))]
   ·cases h
  ·cases h
 have ap : ∀ {dst e x y v s1}, s.append E dst e x y = some (v, s1) → s1.rg = s.rg := by
  intro dst e x y v s1 h
  unfold St.append at h
  (repeat' (split at h)) <;> first | (cases h; rfl) | cases h
 obtain ⟨dst, op, type, pos, after, guard⟩ := o
 intro t ht
 cases op with
 | alloc ty => simp only [stepV] at h; split at h; exact nv h t ht; cases h
 | box ty x => simp only [stepV] at h; split at h; exact nv h t ht; cases h
 | store ty a x =>
  simp only [stepV] at h
  split at h
  ·rename_i p w n hp hx hn
   split at h
   ·obtain ⟨y, hy, e⟩ := Option.map_eq_some_iff.1 h
    cases e
    unfold St.storeCells at hy
    split at hy
    ·split at hy
     ·rename_i t' g off
      split at hy
      ·split at hy
       ·obtain ⟨cs, _, rfl⟩ := Option.map_eq_some_iff.1 hy
        simp only [upd]
        rw [if_neg]
        intro e
        apply ht
        simp only [rgKey, hp, e]
       ·cases hy
      ·cases hy
     ·split at hy
      ·obtain ⟨cs, _, rfl⟩ := Option.map_eq_some_iff.1 hy; rfl
      ·cases hy
     ·cases hy
    ·cases hy
   ·cases h
  ·cases h
 | call c =>
  obtain ⟨callee, args, argTypes⟩ := c
  cases callee with
  | builtin b =>
   cases b <;> simp only [stepV] at h <;> first | cases h | skip
   case append => split at h <;> first | (split at h <;> first | rw [ap h] | cases h) | cases h
   case clear =>
    split at h
    ·split at h
     ·split at h
      ·split at h
       ·cases h
       ·obtain ⟨y, hy, e⟩ := Option.map_eq_some_iff.1 h
        cases e
        unfold St.storeCells at hy
        split at hy
        ·simp only at hy
         split at hy
         ·obtain ⟨cs, _, rfl⟩ := Option.map_eq_some_iff.1 hy; rfl
         ·cases hy
        ·cases hy
      ·cases h
     ·cases h
    ·cases h
   all_goals (repeat' (split at h)) <;> first | (obtain ⟨x, hx, e⟩ := Option.map_eq_some_iff.1 h; cases e; rfl) | cases h
  | _ => simp [stepV] at h
 | buildSlice ty len parts =>
  simp only [stepV] at h
  split at h
  ·split at h
   ·split at h
    ·cases h
    ·obtain ⟨x, hx, e⟩ := Option.map_eq_some_iff.1 h
     split at e <;> (cases e; rfl)
   ·cases h
  ·cases h
 | makeFunc f first caps => cases f <;> (simp only [stepV] at h; (repeat' (split at h)) <;> first | (obtain ⟨x, hx, e⟩ := Option.map_eq_some_iff.1 h; cases e; rfl) | (cases h; rfl) | cases h)
 | makeMap ty r => cases r <;> (simp only [stepV] at h; (repeat' (split at h)) <;> first | (obtain ⟨x, hx, e⟩ := Option.map_eq_some_iff.1 h; cases e; rfl) | (cases h; rfl) | cases h)
 | slice ty x lo hi mx => cases mx <;> (simp only [stepV] at h; (repeat' (split at h)) <;> first | (obtain ⟨x, hx, e⟩ := Option.map_eq_some_iff.1 h; cases e; rfl) | (cases h; rfl) | cases h)
 | _ => (simp only [stepV] at h; (repeat' (split at h)) <;> first | (obtain ⟨x, hx, e⟩ := Option.map_eq_some_iff.1 h; cases e; rfl) | (cases h; rfl) | cases h)
theorem st_after {x : Fr} {s1 : St} {o : Oper} {v : V} {rg : List (Nat × (Nat × List V))} (h : stepV E (x.st nt esc) o = some (v, s1)) (hr : rgAfter x.rg (rgKey E (x.st nt esc) o) s1 = some rg) :
  (Fr.mk x.tr rg s1.g).st nt esc = s1 := by
 obtain ⟨h1, h2, h3⟩ := stepV_tm h
 have hk := stepV_rgKey h
 have hrg : (fun t => rgGet rg t) = s1.rg := by
  funext t
  unfold rgAfter at hr
  split at hr
  ·rename_i hn
   cases hr
   rw [hk t (by rw [hn]; simp)]; rfl
  ·rename_i t' ht'
   split at hr
   ·rename_i y hy
    cases hr
    rw [rgGet_set]
    by_cases htt : t = t'
    ·subst htt; simp [hy]
    ·rw [if_neg htt, hk t (by rw [ht']; intro e; cases e; exact htt rfl)]; rfl
   ·rename_i hn
    split at hr
    ·rename_i hl
     cases hr
     by_cases htt : t = t'
     ·subst htt; rw [hl, hn]
     ·rw [hk t (by rw [ht']; intro e; cases e; exact htt rfl)]; rfl
    ·cases hr
 cases s1
 simp only [Fr.st] at *
 simp only [St.mk.injEq]
 exact ⟨h2.symm, h1.symm, hrg, h3.symm, trivial⟩
theorem args_get : ∀ (l : List V) (n : Nat) (t : Tr) (j : Nat), n + l.length ≤ 4000 → (Tr.args n t l).get j = if n ≤ j ∧ j < n + l.length then l.getD (j - n) .undef else t.get j := by
 intro l
 induction l with
 | nil => intro n t j _; simp only [Tr.args, List.length_nil]; rw [if_neg (by omega)]
 | cons v l ih =>
  intro n t j h
  simp only [List.length_cons] at h
  simp only [Tr.args]
  rw [ih (n + 1) _ j (by omega), Tr.get_set _ _ _ _ _ (by omega)]
  by_cases h1 : n + 1 ≤ j ∧ j < n + 1 + l.length
  ·rw [if_pos h1, if_pos (by simp only [List.length_cons]; omega)]
   obtain ⟨k, rfl⟩ : ∃ k, j = n + (k + 1) := ⟨j - n - 1, by omega⟩
   rw [show n + (k + 1) - n = k + 1 by omega, show n + (k + 1) - (n + 1) = k by omega]
   rfl
  ·rw [if_neg h1]
   by_cases h2 : j = n
   ·subst h2
    rw [if_pos rfl, if_pos (by simp only [List.length_cons]; omega)]
    simp
   ·rw [if_neg h2, if_neg (by simp only [List.length_cons]; omega)]
theorem enter_st {fn : Func} {f : FuncId} {args : List V} {g : G} (h : args.length ≤ 4000) : (enterX args g).st fn.ntmps (E.esc f) = enter E fn f args g := by
 unfold enterX enter Fr.st
 simp only [St.mk.injEq]
 refine ⟨trivial, ?_, ?_, trivial, trivial⟩
 ·funext t
  rw [args_get _ _ _ _ (by omega)]
  simp only [Nat.zero_le, true_and, Nat.zero_add, Nat.sub_zero]
  split
  ·rfl
  ·rename_i hlt
   rw [List.getD_eq_getElem?_getD, List.getElem?_eq_none (by omega)]
   cases t <;> rfl
 ·funext t; rfl
theorem cleanAll_ok {g : G} {rs : List ResultVar} : ∀ {l : List (X × Fr)} {out : List (List V)}, cleanAll E nt esc g rs l = some out → ∀ r, r ∈ l → (r.1 = .normal ∨ r.1 = .ret) ∧
  ∃ vs ws, resOf E (r.2.st nt esc) rs = some vs ∧ sealL r.2.g vs = some ws ∧ r.2.g.wo = g.objs.length ∧ r.2.g.wt = g.toks.length ∧ ws ∈ out := by
 intro l
 induction l with
 | nil => intro out _ r hr; cases hr
 | cons a l ih =>
  intro out h r hr
  obtain ⟨e, x⟩ := a
  have main : clean1 E nt esc g rs x (cleanAll E nt esc g rs l) = some out ∧ (e = .normal ∨ e = .ret) := by
   cases e with
   | exit i => simp [cleanAll] at h
   | normal => exact ⟨by simpa only [cleanAll] using h, Or.inl rfl⟩
   | ret => exact ⟨by simpa only [cleanAll] using h, Or.inr rfl⟩
  obtain ⟨m1, m2⟩ := main
  unfold clean1 at m1
  split at m1
  ·cases m1
  ·rename_i vs hvs
   split at m1
   ·cases m1
   ·rename_i ws hws
    cases hc : Nat.beq x.g.wo g.objs.length && Nat.beq x.g.wt g.toks.length with
    | false => rw [hc] at m1; cases m1
    | true =>
     rw [hc] at m1
     simp only [cond_true] at m1
     simp only [Bool.and_eq_true] at hc
     have hh : ∃ out', cleanAll E nt esc g rs l = some out' ∧ ws ∈ out ∧ ∀ z, z ∈ out' → z ∈ out := by
      split at m1
      ·cases m1
      ·rename_i hq; cases m1; exact ⟨_, hq, by simp, fun z hz => by cases hz⟩
      ·rename_i hq; cases m1; exact ⟨_, hq, addOne_mem (Or.inl rfl), fun z hz => addOne_mem (Or.inr hz)⟩
     obtain ⟨out', q1, q2, q3⟩ := hh
     rcases List.mem_cons.1 hr with rfl | hr
     ·exact ⟨m2, vs, ws, hvs, hws, beq_eq hc.1, beq_eq hc.2, q2⟩
     ·obtain ⟨p1, vs', ws', p2, p3, p4, p5, p6⟩ := ih q1 r hr
      exact ⟨p1, vs', ws', p2, p3, p4, p5, q3 _ p6⟩
theorem keepAll_ok {g : G} {rs : List ResultVar} : ∀ {l : List (X × Fr)} {out : List (List V × G)}, keepAll E nt esc g rs l = some out → ∀ r, r ∈ l → (r.1 = .normal ∨ r.1 = .ret) ∧
  ∃ vs, resOf E (r.2.st nt esc) rs = some vs ∧ (vs, { r.2.g with wo := min g.wo r.2.g.wo, wt := min g.wt r.2.g.wt }) ∈ out := by
 intro l
 induction l with
 | nil => intro out _ r hr; cases hr
 | cons a l ih =>
  intro out h r hr
  obtain ⟨e, x⟩ := a
  have main : keep1 E nt esc g rs x (keepAll E nt esc g rs l) = some out ∧ (e = .normal ∨ e = .ret) := by
   cases e with
   | exit i => simp [keepAll] at h
   | normal => exact ⟨by simpa only [keepAll] using h, Or.inl rfl⟩
   | ret => exact ⟨by simpa only [keepAll] using h, Or.inr rfl⟩
  obtain ⟨m1, m2⟩ := main
  unfold keep1 at m1
  split at m1
  ·cases m1
  ·rename_i vs hvs
   split at m1
   ·cases m1
   ·rename_i l' hl
    cases m1
    rcases List.mem_cons.1 hr with rfl | hr
    ·exact ⟨m2, vs, hvs, by simp⟩
    ·obtain ⟨p1, vs', p2, p3⟩ := ih hl r hr
     exact ⟨p1, vs', p2, List.mem_cons_of_mem _ p3⟩
theorem put1_ok {x : Fr} {dst : Option Tmp} : ∀ {l : List (List V)} {ys : List Fr}, put1 nt x dst l = some ys → ∀ vs, vs ∈ l → ∃ y, x.put nt dst (pack vs) = some y ∧ y ∈ ys := by
 intro l
 induction l with
 | nil => intro ys _ vs h; cases h
 | cons a l ih =>
  intro ys h vs hv
  unfold put1 at h
  split at h
  ·rename_i y ys' h1 h2
   cases h
   rcases List.mem_cons.1 hv with rfl | hv
   ·exact ⟨y, h1, by simp⟩
   ·obtain ⟨z, q1, q2⟩ := ih h2 vs hv; exact ⟨z, q1, List.mem_cons_of_mem _ q2⟩
  ·cases h
theorem put2_ok {x : Fr} {dst : Option Tmp} : ∀ {l : List (List V × G)} {ys : List Fr}, put2 nt x dst l = some ys → ∀ p, p ∈ l → ∃ y, Fr.put nt { x with g := p.2 } dst (pack p.1) = some y ∧ y ∈ ys := by
 intro l
 induction l with
 | nil => intro ys _ vs h; cases h
 | cons a l ih =>
  intro ys h vs hv
  obtain ⟨a1, a2⟩ := a
  unfold put2 at h
  split at h
  ·rename_i y ys' h1 h2
   cases h
   rcases List.mem_cons.1 hv with rfl | hv
   ·exact ⟨y, h1, by simp⟩
   ·obtain ⟨z, q1, q2⟩ := ih h2 vs hv; exact ⟨z, q1, List.mem_cons_of_mem _ q2⟩
  ·cases h
theorem nextAll_ok {x : Fr} {dst : Option Tmp} {it : V} : ∀ {l : List (Option (PV × V × Nat))} {ys : List Fr}, nextAll nt x dst it l = some ys → ∀ c, c ∈ l → ∃ v g y, afterNext x.g it c = some (v, g) ∧ Fr.put nt { x with g := g } dst v = some y ∧ y ∈ ys := by
 intro l
 induction l with
 | nil => intro ys _ vs h; cases h
 | cons a l ih =>
  intro ys h c hc
  unfold nextAll at h
  split at h
  ·cases h
  ·rename_i v g ha
   split at h
   ·rename_i y ys' h1 h2
    cases h
    rcases List.mem_cons.1 hc with rfl | hc
    ·exact ⟨v, g, y, ha, h1, by simp⟩
    ·obtain ⟨v', g', z, q1, q2, q3⟩ := ih h2 c hc; exact ⟨v', g', z, q1, q2, List.mem_cons_of_mem _ q3⟩
   ·cases h
theorem EvM.mono {cl : Nat → Bool} {ops : Array Oper} {tab : List Nat} {Q Q' : St → Prop} (hq : ∀ s, Q s → Q' s) {n mask : Nat} {s : St} (h : EvM E cl esc ops tab Q n mask s) : EvM E cl esc ops tab Q' n mask s := by
 induction h with
 | done a b => exact .done a (hq _ b)
 | one st a b c d _ ih => exact .one st a b c d ih
 | all f a b _ ih => exact .all f a b ih
end
def OutOk (out : Out) (g : G) (v : V) (g' : G) : Prop :=
 match out with
 | .clean vs => g' = g ∧ ∃ ws, ws ∈ vs ∧ v = pack ws
 | .keep l => ∃ p, p ∈ l ∧ v = pack p.1 ∧ g' = p.2
section
variable {C : Cfg}
structure Told (C : Cfg) (n : Nat) : Prop where
 c : ∀ F nt c x outs, runC C n F nt c x = some outs → Ev C.E (.code c (x.st nt (C.E.esc F)) fun e s => ∃ r, r ∈ outs ∧ r.1 = e ∧ r.2.st nt (C.E.esc F) = s)
 o : ∀ F nt ops l x outs, runO C n F nt ops l x = some outs → Ev C.E (.ops ops l (x.st nt (C.E.esc F)) fun s => ∃ y, y ∈ outs ∧ y.st nt (C.E.esc F) = s)
 t : ∀ F nt ops tab m mask x outs, runT C n F nt ops tab m mask x = some outs → EvM C.E (C.cl ops) (C.E.esc F) ops tab (fun s => ∃ y, y ∈ outs ∧ y.st nt (C.E.esc F) = s) m mask (x.st nt (C.E.esc F))
 p : ∀ F nt ops i o x y, ops[i]? = some o → runP C n F nt ops i o x = some y → Do C.E (C.cl ops) ops i (x.st nt (C.E.esc F)) (y.st nt (C.E.esc F))
 a : ∀ F nt ops tab m mask l x outs, runA C n F nt ops tab m mask l x = some outs → ∀ i, i ∈ l → ∃ y : Fr, Do C.E (C.cl ops) ops i (x.st nt (C.E.esc F)) (y.st nt (C.E.esc F)) ∧
  EvM C.E (C.cl ops) (C.E.esc F) ops tab (fun s => ∃ z, z ∈ outs ∧ z.st nt (C.E.esc F) = s) m (mask ||| 2 ^ i) (y.st nt (C.E.esc F))
 f : ∀ f args g out, runF C n f args g = some out → Ev C.E (.call f args g (OutOk out g))
theorem told (hp : PrimMono C.E) (hm : C.E.P.follows .mixedOrders = true) : ∀ n, Told C n := by
 intro n
 induction n with
 | zero =>
  refine ⟨?_, ?_, ?_, ?_, ?_, ?_⟩
  ·intro F nt c x outs h; simp [runC] at h
  ·intro F nt ops l x outs h; simp [runO] at h
  ·intro F nt ops tab m mask x outs h; simp [runT] at h
  ·intro F nt ops i o x y _ h; simp [runP] at h
  ·intro F nt ops tab m mask l x outs h; simp [runA] at h
  ·intro f args g out h; simp [runF] at h
 | succ n ih =>
  refine ⟨?_, ?_, ?_, ?_, ?_, ?_⟩
  ·intro F nt c x outs h
   unfold runC at h
   split at h
   ·cases h; exact .skip ⟨(.normal, x), by simp, rfl, rfl⟩
   ·cases h; exact .ret ⟨(.ret, x), by simp, rfl, rfl⟩
   ·cases h; exact .exit ⟨(.exit _, x), by simp, rfl, rfl⟩
   ·rename_i a b
    split at h
    ·cases h
    ·rename_i l hl
     refine .seq _ (ih.c F nt a x l hl) (fun s' hs => ?_) (fun e s' he hs => ?_)
     ·obtain ⟨⟨e, y⟩, hr, rfl, rfl⟩ := hs
      obtain ⟨ra, q1, q2⟩ := bindO_mem h _ hr
      exact (ih.c F nt b y ra q1).monoC hp fun e s' ⟨r, h1, h2⟩ => ⟨r, q2 _ h1, h2⟩
     ·obtain ⟨⟨e', y⟩, hr, rfl, rfl⟩ := hs
      obtain ⟨ra, q1, q2⟩ := bindO_mem h _ hr
      cases e' with
      | normal => exact absurd rfl he
      | exit i => cases q1; exact ⟨_, q2 _ (List.mem_singleton.2 rfl), rfl, rfl⟩
      | ret => cases q1; exact ⟨_, q2 _ (List.mem_singleton.2 rfl), rfl, rfl⟩
   ·rename_i c a b
    split at h
    ·rename_i hc; exact .cond true hc (ih.c F nt a x outs h)
    ·rename_i hc; exact .cond false hc (ih.c F nt b x outs h)
    ·cases h
   ·rename_i id b
    split at h
    ·cases h
    ·rename_i l hl
     refine .block _ (ih.c F nt b x l hl) (fun s' hs => ?_) (fun id' s' hs => ?_) (fun s' hs => ?_)
     ·obtain ⟨⟨e', y⟩, hr, he, rfl⟩ := hs
      simp only at he; subst he
      obtain ⟨ra, q1, q2⟩ := bindO_mem h _ hr
      cases q1; exact ⟨_, q2 _ (List.mem_singleton.2 rfl), rfl, rfl⟩
     ·obtain ⟨⟨e', y⟩, hr, he, rfl⟩ := hs
      simp only at he; subst he
      obtain ⟨ra, q1, q2⟩ := bindO_mem h _ hr
      simp only at q1
      split
      ·rename_i hid
       subst hid
       rw [Nat.beq_refl] at q1
       cases q1; exact ⟨_, q2 _ (List.mem_singleton.2 rfl), rfl, rfl⟩
      ·rename_i hid
       cases hb : Nat.beq id' id with
       | true => exact absurd (beq_eq hb) hid
       | false => rw [hb] at q1; cases q1; exact ⟨_, q2 _ (List.mem_singleton.2 rfl), rfl, rfl⟩
     ·obtain ⟨⟨e', y⟩, hr, he, rfl⟩ := hs
      simp only at he; subst he
      obtain ⟨ra, q1, q2⟩ := bindO_mem h _ hr
      cases q1; exact ⟨_, q2 _ (List.mem_singleton.2 rfl), rfl, rfl⟩
   ·rename_i b
    split at h
    ·cases h
    ·rename_i l hl
     refine .loop _ (ih.c F nt b x l hl) (fun s' hs => ?_) (fun e s' he hs => ?_)
     ·obtain ⟨⟨e, y⟩, hr, rfl, rfl⟩ := hs
      obtain ⟨ra, q1, q2⟩ := bindO_mem h _ hr
      exact (ih.c F nt _ y ra q1).monoC hp fun e s' ⟨r, h1, h2⟩ => ⟨r, q2 _ h1, h2⟩
     ·obtain ⟨⟨e', y⟩, hr, rfl, rfl⟩ := hs
      obtain ⟨ra, q1, q2⟩ := bindO_mem h _ hr
      cases e' with
      | normal => exact absurd rfl he
      | exit i => cases q1; exact ⟨_, q2 _ (List.mem_singleton.2 rfl), rfl, rfl⟩
      | ret => cases q1; exact ⟨_, q2 _ (List.mem_singleton.2 rfl), rfl, rfl⟩
   ·rename_i id ops d
    split at h
    ·split at h
     ·cases h
     ·rename_i l hl
      refine .region ((ih.o F nt ops _ x l hl).monoO hp fun s ⟨y, hy, hs⟩ => ?_)
      obtain ⟨ra, q1, q2⟩ := bindO_mem h _ hy
      cases q1; exact ⟨_, q2 _ (List.mem_singleton.2 rfl), rfl, hs⟩
    ·cases ht : tabOk ops (aheads ops) with
     | false => rw [ht] at h; cases h
     | true =>
      rw [ht] at h
      simp only [cond_true] at h
      split at h
      ·cases h
      ·rename_i l hl
       refine EvM.sound (cl := C.cl ops) hm ht (EvM.mono (fun s hs => ?_) (ih.t F nt ops _ _ _ x l hl))
       obtain ⟨y, hy, hs⟩ := hs
       obtain ⟨ra, q1, q2⟩ := bindO_mem h _ hy
       cases q1; exact ⟨_, q2 _ (List.mem_singleton.2 rfl), rfl, hs⟩
   ·cases h
  ·intro F nt ops l x outs h
   unfold runO at h
   split at h
   ·cases h; exact .nil ⟨x, by simp, rfl⟩
   ·rename_i i l
    split at h
    ·cases h
    ·rename_i o ho
     split at h
     ·cases h
     ·rename_i hw
      split at h
      ·cases h
      ·rename_i y hy
       exact .skipOp ho hw (put_fr hy) (ih.o F nt ops l y outs h)
     ·rename_i hw
      split at h
      ·rename_i v s hs
       rw [fV_eq, fG_eq] at h
       split at h
       ·cases h
       ·rename_i rg hrg
        split at h
        ·cases h
        ·rename_i y hy
         refine .step ho hw hs (s' := y.st nt (C.E.esc F)) ?_ (ih.o F nt ops l y outs h)
         rw [← st_after hs hrg]
         exact put_fr hy
      ·split at h
       ·rename_i f args hcall
        split at h
        ·cases h
        ·rename_i out hout
         split at h
         ·cases h
         ·rename_i ys hys
          have hsf : ∀ v g, OutOk out x.g v g → ∃ y, y ∈ ys ∧ Fr.put nt { x with g := g } o.dst v = some y := by
           intro v g hok
           cases out with
           | clean vs =>
            obtain ⟨rfl, ws, h1, rfl⟩ := hok
            obtain ⟨y, q1, q2⟩ := put1_ok hys ws h1
            exact ⟨y, q2, q1⟩
           | keep l' =>
            obtain ⟨p, h1, rfl, rfl⟩ := hok
            obtain ⟨y, q1, q2⟩ := put2_ok hys p h1
            exact ⟨y, q2, q1⟩
          refine .callOp _ (fun v g => match Fr.put nt { x with g := g } o.dst v with
           | some y => y.st nt (C.E.esc F)
           | none => x.st nt (C.E.esc F)) ho hw hcall (ih.f f args x.g out hout) (fun v g hok => ?_) (fun v g hok => ?_)
          ·obtain ⟨y, h1, h2⟩ := hsf v g hok
           rw [h2]
           exact put_fr (esc := C.E.esc F) h2
          ·obtain ⟨y, h1, h2⟩ := hsf v g hok
           rw [h2]
           obtain ⟨ra, q1, q2⟩ := bindO_mem h _ h1
           exact (ih.o F nt ops l y ra q1).monoO hp fun s ⟨z, hz, hs⟩ => ⟨z, q2 _ hz, hs⟩
       ·split at h
        ·rename_i it hop
         split at h
         ·cases h
         ·rename_i w hit
          split at h
          ·cases h
          ·rename_i cs hcs
           split at h
           ·cases h
           ·rename_i ys hys
            refine .next (fun c => match afterNext x.g w c with
             | some (v, g) => (match Fr.put nt { x with g := g } o.dst v with
              | some y => y.st nt (C.E.esc F)
              | none => x.st nt (C.E.esc F))
             | none => x.st nt (C.E.esc F)) ho hw hop hit hcs (fun c hc => ?_) (fun c hc => ?_)
            ·obtain ⟨v, g, y, q1, q2, q3⟩ := nextAll_ok hys c hc
             refine ⟨v, g, q1, ?_⟩
             simp only [q1, q2]
             exact put_fr (esc := C.E.esc F) q2
            ·obtain ⟨v, g, y, q1, q2, q3⟩ := nextAll_ok hys c hc
             simp only [q1, q2]
             obtain ⟨ra, p1, p2⟩ := bindO_mem h _ q3
             exact (ih.o F nt ops l y ra p1).monoO hp fun s ⟨z, hz, hs⟩ => ⟨z, p2 _ hz, hs⟩
        ·cases h
  ·intro F nt ops tab m mask x outs h
   unfold runT at h
   split at h
   ·rename_i hr; cases h; exact .done hr ⟨x, by simp, rfl⟩
   ·rename_i r rs hr
    split at h
    ·cases h
    ·rename_i m
     have hall : runA C n F nt ops tab m mask (r :: rs) x = some outs → EvM C.E (C.cl ops) (C.E.esc F) ops tab (fun s => ∃ y, y ∈ outs ∧ y.st nt (C.E.esc F) = s) (m + 1) mask (x.st nt (C.E.esc F)) := by
      intro h
      have hA := ih.a F nt ops tab m mask (r :: rs) x outs h
      refine .all (fun i => if hi : i ∈ r :: rs then (hA i hi).choose.st nt (C.E.esc F) else x.st nt (C.E.esc F)) (by rw [hr]; simp) (fun i hi => ?_) (fun i hi => ?_)
      ·rw [hr] at hi
       simp only [hi, dif_pos]
       exact (hA i hi).choose_spec.1
      ·rw [hr] at hi
       simp only [hi, dif_pos]
       exact (hA i hi).choose_spec.2
     split at h
     ·rename_i i ad hf
      split at h
      ·cases h
      ·rename_i o ho
       cases had : addrsOk C.E ops (x.st nt (C.E.esc F)) o ad with
       | true =>
        rw [had] at h
        simp only [cond_true] at h
        split at h
        ·cases h
        ·rename_i y hy
         exact .one false (by rw [hr]; exact hf) ho had (ih.p F nt ops i o x y ho hy) (ih.t F nt ops tab m _ y outs h)
       | false =>
        rw [had] at h
        simp only [cond_false] at h
        split at h
        ·rename_i i ad hf
         split at h
         ·cases h
         ·rename_i o ho
          cases had : addrsOk C.E ops (x.st nt (C.E.esc F)) o ad with
          | true =>
           rw [had] at h
           simp only [cond_true] at h
           split at h
           ·cases h
           ·rename_i y hy
            exact .one true (by rw [hr]; exact hf) ho had (ih.p F nt ops i o x y ho hy) (ih.t F nt ops tab m _ y outs h)
          | false => rw [had] at h; cases h
        ·exact hall h
     ·exact hall h
  ·intro F nt ops i o x y ho h
   unfold runP at h
   split at h
   ·cases h
   ·rename_i hw; exact .skip ho hw (put_fr h)
   ·rename_i hw
    split at h
    ·rename_i v s hs
     rw [fV_eq, fG_eq] at h
     split at h
     ·cases h
     ·rename_i rg hrg
      refine .step ho hw hs ?_
      rw [← st_after hs hrg]
      exact put_fr h
    ·split at h
     ·rename_i f args hcall
      split at h
      ·rename_i vs hout
       refine .call (v := pack vs) (g := x.g) ho hw hcall ((ih.f f args x.g _ hout).monoF hp fun v g' hok => ?_) (fun _ => rfl) (put_fr h)
       obtain ⟨rfl, ws, h1, rfl⟩ := hok
       simp at h1; subst h1; exact ⟨rfl, rfl⟩
      ·rename_i vs g hout
       cases hcl : C.cl ops i with
       | true => rw [hcl] at h; cases h
       | false =>
        rw [hcl] at h
        simp only [cond_false] at h
        refine .call (v := pack vs) (g := g) ho hw hcall ((ih.f f args x.g _ hout).monoF hp fun v g' hok => ?_) (fun e => by rw [hcl] at e; cases e) (put_fr (esc := C.E.esc F) h)
        obtain ⟨p, h1, rfl, rfl⟩ := hok
        simp at h1; subst h1; exact ⟨rfl, rfl⟩
      ·cases h
     ·cases h
  ·intro F nt ops tab m mask l x outs h i hi
   unfold runA at h
   split at h
   ·cases hi
   ·rename_i i' l
    split at h
    ·cases h
    ·rename_i o ho
     split at h
     ·cases h
     ·rename_i y hy
      split at h
      ·cases h
      ·rename_i a ha
       split at h
       ·cases h
       ·rename_i b hb
        cases h
        rcases List.mem_cons.1 hi with rfl | hi
        ·exact ⟨y, ih.p F nt ops _ o x y ho hy, EvM.mono (fun s ⟨z, hz, hs⟩ => ⟨z, mergeFr_mem _ _ _ (Or.inl hz), hs⟩) (ih.t F nt ops tab m _ y a ha)⟩
        ·obtain ⟨y', q1, q2⟩ := ih.a F nt ops tab m mask l x b hb i hi
         exact ⟨y', q1, EvM.mono (fun s ⟨z, hz, hs⟩ => ⟨z, mergeFr_mem _ _ _ (Or.inr hz), hs⟩) q2⟩
  ·intro f args g out h
   unfold runF at h
   split at h
   ·cases h
   ·rename_i fn hfn
    split at h
    ·cases h
    ·rename_i body hbody
     cases hc : Nat.ble args.length fn.ntmps && Nat.blt args.length 4000 with
     | false => rw [hc] at h; cases h
     | true =>
      rw [hc] at h
      simp only [cond_true] at h
      simp only [Bool.and_eq_true] at hc
      have h1 : args.length ≤ fn.ntmps := Nat.le_of_ble_eq_true hc.1
      have h2 : args.length < 4000 := Nat.le_of_ble_eq_true hc.2
      split at h
      ·cases h
      ·rename_i outs houts
       have hev := ih.c f fn.ntmps body _ outs houts
       rw [enter_st (E := C.E) (by omega)] at hev
       split at h
       ·rename_i vs hvs
        cases h
        have hvs : cleanAll C.E fn.ntmps (C.E.esc f) g fn.results.toList outs = some vs := by
         cases hk : C.keeps f with
         | true => rw [hk] at hvs; cases hvs
         | false => rw [hk] at hvs; exact hvs
        refine .fnClean _ hfn hbody h1 hev fun e s' hq => ?_
        obtain ⟨r, hr, rfl, rfl⟩ := hq
        obtain ⟨p1, us, ws, p2, p3, p4, p5, p6⟩ := cleanAll_ok hvs r hr
        exact ⟨p1, us, ws, p2, p3, p4, p5, rfl, ws, p6, rfl⟩
       ·split at h
        ·rename_i l hl
         cases h
         refine .fnKeep _ hfn hbody h1 hev fun e s' hq => ?_
         obtain ⟨r, hr, rfl, rfl⟩ := hq
         obtain ⟨p1, us, p2, p3⟩ := keepAll_ok hl r hr
         exact ⟨p1, us, p2, _, p3, rfl, rfl⟩
        ·cases h
theorem runF_ok (hp : PrimMono C.E) (hm : C.E.P.follows .mixedOrders = true) {n : Nat} {f : FuncId} {args : List V} {g : G} {out : Out} (h : runF C n f args g = some out) : Ev C.E (.call f args g (OutOk out g)) :=
 (told hp hm n).f f args g out h
end
end Go.Vm
set_option linter.unusedVariables false
namespace Go.Vm
open Go
inductive Dp : V → PV → Prop where
 | p {x} : Dp (.p x) x
 | sl {rows : List (List V)} {ps : List (List PV)} {k : SK} : rows.length = ps.length → (∀ (i : Nat) (r : List V) (q : List PV), rows[i]? = some r → ps[i]? = some q → r.length = q.length) →
   (∀ (i j : Nat) (r : List V) (q : List PV) (x : V) (y : PV), rows[i]? = some r → ps[i]? = some q → r[j]? = some x → q[j]? = some y → Dp x y) → Dp (.sl rows k) (.sl ps)
theorem Dp.rep {v : Vw} {x : V} {z : PV} (h : Dp x z) : ∀ {y : Value}, RepC v x y → RepP v.sg z y := by
 induction h with
 | p => intro y r; cases r; assumption
 | @sl rows ps k hl hr hd ih =>
  intro y r
  cases r with
  | @sl _ a cap n _ f cs h1 h2 h3 h4 h5 h6 h7 h8 =>
   have row : ∀ (i : Nat) (q : List PV), ps[i]? = some q → ∃ r, rows[i]? = some r ∧ r.length = q.length := by
    intro i q hq
    have hi : i < rows.length := by rw [hl]; exact (List.getElem?_eq_some_iff.1 hq).1
    exact ⟨_, List.getElem?_eq_getElem hi, hr i _ q (List.getElem?_eq_getElem hi) hq⟩
   have cell : ∀ (i j : Nat) (q : List PV) (y : PV), ps[i]? = some q → q[j]? = some y → ∃ r x, rows[i]? = some r ∧ r[j]? = some x := by
    intro i j q y hq hy
    obtain ⟨r, e1, e2⟩ := row i q hq
    have hj : j < r.length := by rw [e2]; exact (List.getElem?_eq_some_iff.1 hy).1
    exact ⟨r, _, e1, List.getElem?_eq_getElem hj⟩
   rw [hl]
   refine RepP.sl (n := n) f cs (fun _ => h1) (by omega) (fun q hq => ?_) (fun hne => h4 (fun e => hne ?_)) (fun i j q y hq hy => ?_) (fun i j q y hq hy => ?_)
   ·obtain ⟨i, hi⟩ := List.mem_iff_getElem?.1 hq
    obtain ⟨r, e1, e2⟩ := row i q hi
    rw [← e2]; exact h3 r (List.mem_of_getElem? e1)
   ·rw [e] at hl; exact List.eq_nil_of_length_eq_zero hl.symm
   ·obtain ⟨r, x, e1, e2⟩ := cell i j q y hq hy
    exact h5 i j r x e1 e2
   ·obtain ⟨r, x, e1, e2⟩ := cell i j q y hq hy
    exact ih i j r q x y e1 hq e2 hy (h6 i j r x e1 e2)
inductive DpL : List V → List PV → Prop where
 | nil : DpL [] []
 | cons {x z xs zs} : Dp x z → DpL xs zs → DpL (x :: xs) (z :: zs)
inductive DpR : List (List V) → List (List PV) → Prop where
 | nil : DpR [] []
 | cons {x z xs zs} : DpL x z → DpR xs zs → DpR (x :: xs) (z :: zs)
theorem DpL.len {xs : List V} {zs : List PV} (h : DpL xs zs) : xs.length = zs.length := by
 induction h with
 | nil => rfl
 | cons _ _ ih => simp [ih]
theorem DpL.get {xs : List V} {zs : List PV} (h : DpL xs zs) : ∀ (i : Nat) (x : V) (z : PV), xs[i]? = some x → zs[i]? = some z → Dp x z := by
 induction h with
 | nil => intro i x z h; simp at h
 | cons hc _ ih =>
  intro i x z hx hz
  cases i with
  | zero => simp at hx hz; subst hx hz; exact hc
  | succ i => exact ih i x z (by simpa using hx) (by simpa using hz)
theorem DpR.len {xs : List (List V)} {zs : List (List PV)} (h : DpR xs zs) : xs.length = zs.length := by
 induction h with
 | nil => rfl
 | cons _ _ ih => simp [ih]
theorem DpR.get {xs : List (List V)} {zs : List (List PV)} (h : DpR xs zs) : ∀ (i : Nat) (x : List V) (z : List PV), xs[i]? = some x → zs[i]? = some z → DpL x z := by
 induction h with
 | nil => intro i x z h; simp at h
 | cons hc _ ih =>
  intro i x z hx hz
  cases i with
  | zero => simp at hx hz; subst hx hz; exact hc
  | succ i => exact ih i x z (by simpa using hx) (by simpa using hz)
theorem DpR.dp {rows : List (List V)} {ps : List (List PV)} {k : SK} (h : DpR rows ps) : Dp (.sl rows k) (.sl ps) :=
 .sl h.len (fun i r q hr hq => (h.get i r q hr hq).len) (fun i j r q x y hr hq hx hy => (h.get i r q hr hq).get j x y hx hy)
theorem DpL.same (l : List PV) : DpL (l.map .p) l := by
 induction l with
 | nil => exact .nil
 | cons x l ih => exact .cons .p ih
theorem DpR.same {α : Type} {f : α → List PV} (xs : List α) : DpR (xs.map fun a => (f a).map .p) (xs.map f) := by
 induction xs with
 | nil => exact .nil
 | cons x l ih => exact .cons (.same _) ih
theorem DpR.app {a c : List (List V)} {p q : List (List PV)} (h : DpR a p) (k : DpR c q) : DpR (a ++ c) (p ++ q) := by
 induction h with
 | nil => exact k
 | cons hc _ ih => exact .cons hc ih
inductive FzC : V → V → Prop where
 | same {x} : FzC x x
 | sealed {x : V} {z : PV} : Dp x z → FzC x (.p z)
inductive FzL : List V → List V → Prop where
 | nil : FzL [] []
 | cons {x z xs zs} : FzC x z → FzL xs zs → FzL (x :: xs) (z :: zs)
inductive FzV : V → V → Prop where
 | c {x z} : FzC x z → FzV x z
 | agg {xs zs} : FzL xs zs → FzV (.agg xs) (.agg zs)
inductive FzA : List V → List V → Prop where
 | nil : FzA [] []
 | cons {x z xs zs} : FzV x z → FzA xs zs → FzA (x :: xs) (z :: zs)
theorem FzL.len {xs zs : List V} (h : FzL xs zs) : xs.length = zs.length := by
 induction h with
 | nil => rfl
 | cons _ _ ih => simp [ih]
theorem FzA.len {xs zs : List V} (h : FzA xs zs) : xs.length = zs.length := by
 induction h with
 | nil => rfl
 | cons _ _ ih => simp [ih]
theorem FzC.rep {v : Vw} {x z : V} {y : Value} (h : FzC x z) (r : RepC v x y) : RepC v z y := by
 cases h with
 | same => exact r
 | sealed e => exact .p (e.rep r)
theorem FzL.rep {v : Vw} {xs zs : List V} (h : FzL xs zs) : ∀ (i : Nat) (z : V) (y : Value) (ys : List Value), (∀ (i : Nat) (x : V) (y : Value), xs[i]? = some x → ys[i]? = some y → RepC v x y) → zs[i]? = some z → ys[i]? = some y → RepC v z y := by
 induction h with
 | nil => intro i z y ys _ h; simp at h
 | cons hc _ ih =>
  intro i z y ys hr hz hy
  cases i with
  | zero => simp at hz; subst hz; exact hc.rep (hr 0 _ y rfl hy)
  | succ i =>
   cases ys with
   | nil => simp at hy
   | cons y0 ys => exact ih i z y ys (fun i x y hx hy => hr (i + 1) x y (by simpa using hx) (by simpa using hy)) (by simpa using hz) (by simpa using hy)
theorem FzV.rep {v : Vw} {x z : V} {y : Value} (h : FzV x z) (r : RepA v x y) : RepA v z y := by
 cases h with
 | c h => cases r with
  | cell r => exact .cell (h.rep r)
  | agg r => cases h with
   | same => exact .agg r
   | sealed e => cases e
 | agg h => cases r with
  | cell r => cases r
  | agg r => exact .agg ⟨h.len ▸ r.1, fun i z y hz hy => h.rep i z y _ r.2 hz hy⟩
theorem FzA.rep {v : Vw} {xs zs : List V} {ys : Array Value} (h : FzA xs zs) (r : RepArgs v xs ys) : RepArgs v zs ys := by
 refine ⟨h.len ▸ r.1, ?_⟩
 have key : ∀ (ys : List Value), (∀ (i : Nat) (x : V) (y : Value), xs[i]? = some x → ys[i]? = some y → RepA v x y) → ∀ (i : Nat) (z : V) (y : Value), zs[i]? = some z → ys[i]? = some y → RepA v z y := by
  clear r
  induction h with
  | nil => intro ys _ i z y h; simp at h
  | cons hc _ ih =>
   intro ys hr i z y hz hy
   cases i with
   | zero => simp at hz; subst hz; exact hc.rep (hr 0 _ y rfl hy)
   | succ i =>
    cases ys with
    | nil => simp at hy
    | cons y0 ys => exact ih ys (fun i x y hx hy => hr (i + 1) x y (by simpa using hx) (by simpa using hy)) i z y (by simpa using hz) (by simpa using hy)
 intro i z y hz hy
 exact key ys.toList (fun i x y hx hy => r.2 i x y hx (by simpa using hy)) i z y hz (by simpa using hy)
def fzPrim (E0 : Env) (f : FuncId) (args : List V) (g : G) (Q : V → G → Prop) : Prop := ∃ zs, FzA args zs ∧ Sound E0 (.call f zs g Q)
theorem WR.cast {E E' : Env} (hg : E.glob = E'.glob) {v : Vw} {g : G} {w : World} (h : WR E v g w) : WR E' v g w :=
 ⟨h.sg, h.nobj, h.toks, h.obj, h.inj, h.osz, h.osg, h.tk, h.tinj, fun gid row e => h.glob gid row (by rw [hg]; exact e)⟩
theorem Sound.cast {E E' : Env} (hP : E.P = E'.P) (hg : E.glob = E'.glob) {f : FuncId} {args : List V} {g : G} {Q : V → G → Prop} (h : Sound E (.call f args g Q)) : Sound E' (.call f args g Q) := by
 intro v w ys W h1 h2 ha
 rw [← hP]
 refine (h v w ys (W.cast hg.symm) h1 h2 ha).mono ?_
 rintro e w' ⟨r, y, v', g', e1, e2, e3, e4, e5, e6⟩
 exact ⟨r, y, v', g', e1, e2, e3.cast hg, e4, e5, e6⟩
theorem fzPrim_ok {E E0 : Env} (hP : E0.P = E.P) (hg : E0.glob = E.glob) (hp : E.prim = fzPrim E0) : PrimOk E := by
 intro f args g Q h
 rw [hp] at h
 obtain ⟨zs, hz, hs⟩ := h
 exact (fun v w ys W h1 h2 ha => (hs.cast hP hg) v w ys W h1 h2 (hz.rep ha))
theorem fzPrim_mono {E E0 : Env} (hp : E.prim = fzPrim E0) : PrimMono E := by
 intro f args g Q Q' hq h
 rw [hp] at h ⊢
 obtain ⟨zs, hz, hs⟩ := h
 refine ⟨zs, hz, fun v w ys W h1 h2 ha => (hs v w ys W h1 h2 ha).mono ?_⟩
 rintro e w' ⟨r, y, v', g', e1, e2, e3, e4, e5, e6⟩
 exact ⟨r, y, v', g', e1, hq _ _ e2, e3, e4, e5, e6⟩
theorem Ev.frz {E E0 : Env} (hP : E0.P = E.P) (hg : E0.glob = E.glob) (hp : E.prim = fzPrim E0) {f : FuncId} {args zs : List V} {g : G} {Q : V → G → Prop} (hz : FzA args zs) (h : Ev E (.call f zs g Q)) : Ev E (.call f args g Q) := by
 refine .prim ?_
 rw [hp]
 exact ⟨zs, hz, (sound (fzPrim_ok hP hg hp) h).cast hP.symm hg.symm⟩
end Go.Vm
set_option linter.unusedVariables false
namespace Go.Vm
open Go
theorem arr_sound {E : Env} {v : Vw} {w w1 w' : World} {g : G} (W : WR E v g w) (hwo : g.wo ≤ g.objs.length) (hwt : g.wt ≤ g.toks.length) {id : Nat} {o o0 : Ob} {O : Obj} (hid : g.objs[id]? = some o0) (hl : o0.live = true)
  (k : Wrote w w1 (v.rho id) O) (hsz : ∀ C' e fr, O = .cells C' e fr → ∃ C e fr, w.heap[v.rho id]? = some (.cells C e fr) ∧ C'.size = C.size) (ho : RepO v o (some O)) (hg : HLe w1 w') {r : V} {y : Value} (hr : RepV v noLc r y)
  {Q : V → G → Prop} (hq : Q r (g.setObj id o)) : CallQ E v w g Q (.returned y) w' := by
 have hidl := (List.getElem?_eq_some_iff.1 hid).1
 have R0 : Rl E v w g v noLc (enter E default 0 [] g) { tmps := (#[] : Array Value) ++ Array.replicate ((default : Func).ntmps - 0) undef, defers := [] } w :=
  enter_ok (args := []) (ys := #[]) W ⟨rfl, fun i x y h => by simp at h⟩ default 0 (Nat.zero_le _)
 have R1 := R0.storeO W.base (id := id) (o := o) (O := O) hidl ⟨o0, hid, hl⟩ k hsz ho
 have R2 := R1.hle W.base hg
 refine ⟨r, y, v, _, rfl, hq, ?_, hr, R2.S.ext, ⟨_, R2.S, rfl, rfl, ?_, ?_, ?_, ?_⟩⟩
 ·have W2 := R2.W
  exact ⟨W2.sg, W2.nobj, W2.toks, W2.obj, W2.inj, W2.osz, W2.osg, W2.tk, W2.tinj, W2.glob⟩
 ·show min g.wo id ≤ min g.objs.length id; omega
 ·show min g.wo id ≤ g.wo; omega
 ·show g.wt ≤ g.toks.length; exact hwt
 ·exact Nat.le_refl _
end Go.Vm
set_option linter.unusedVariables false
namespace Go.Vm
open Go
def escTab : List (Nat × List Nat) := [(7, [5, 7, 129, 130]), (12, [19, 56]), (20, [151, 162]), (21, [40, 41]), (22, [17, 18]), (26, [23, 74, 75]), (29, [37, 120, 121]), (32, [12]), (35, [38]), (57, [15]), (68, [31, 34]), (80, [36, 44, 56, 57]), (87, [7]), (88, [9]), (104, [9]), (105, [11]), (129, [5]), (134, [1]), (135, [15]), (148, [3]), (155, [12]), (158, [2]), (189, [1]), (207, [7]), (208, [9])]
def memN : List Nat → Nat → Bool
 | [], _ => false
 | a :: l, n => Nat.beq a n || memN l n
def lookN {α : Type} : List (Nat × α) → Nat → Option α
 | [], _ => none
 | (a, x) :: l, n => bif Nat.beq a n then some x else lookN l n
def escOf (f : FuncId) (d : Nat) : Bool := match lookN escTab f with
 | some l => memN l d
 | none => false
def globTab : List (Nat × List V) := [(2, [.p (.int .u8 0), .p (.int .u8 1), .p (.int .u8 28), .p (.int .u8 2), .p (.int .u8 29), .p (.int .u8 14), .p (.int .u8 24), .p (.int .u8 3), .p (.int .u8 30), .p (.int .u8 22), .p (.int .u8 20), .p (.int .u8 15), .p (.int .u8 25), .p (.int .u8 17), .p (.int .u8 4), .p (.int .u8 8), .p (.int .u8 31), .p (.int .u8 27), .p (.int .u8 13), .p (.int .u8 23), .p (.int .u8 21), .p (.int .u8 19), .p (.int .u8 16), .p (.int .u8 7), .p (.int .u8 26), .p (.int .u8 12), .p (.int .u8 18), .p (.int .u8 6), .p (.int .u8 11), .p (.int .u8 5), .p (.int .u8 10), .p (.int .u8 9)]), (3, [.p (.int .u8 0), .p (.int .u8 1), .p (.int .u8 56), .p (.int .u8 2), .p (.int .u8 57), .p (.int .u8 49), .p (.int .u8 28), .p (.int .u8 3), .p (.int .u8 61), .p (.int .u8 58), .p (.int .u8 42), .p (.int .u8 50), .p (.int .u8 38), .p (.int .u8 29), .p (.int .u8 17), .p (.int .u8 4), .p (.int .u8 62), .p (.int .u8 47), .p (.int .u8 59), .p (.int .u8 36), .p (.int .u8 45), .p (.int .u8 43), .p (.int .u8 51), .p (.int .u8 22), .p (.int .u8 53), .p (.int .u8 39), .p (.int .u8 33), .p (.int .u8 30), .p (.int .u8 24), .p (.int .u8 18), .p (.int .u8 12), .p (.int .u8 5), .p (.int .u8 63), .p (.int .u8 55), .p (.int .u8 48), .p (.int .u8 27), .p (.int .u8 60), .p (.int .u8 41), .p (.int .u8 37), .p (.int .u8 16), .p (.int .u8 46), .p (.int .u8 35), .p (.int .u8 44), .p (.int .u8 21), .p (.int .u8 52), .p (.int .u8 32), .p (.int .u8 23), .p (.int .u8 11), .p (.int .u8 54), .p (.int .u8 26), .p (.int .u8 40), .p (.int .u8 15), .p (.int .u8 34), .p (.int .u8 20), .p (.int .u8 31), .p (.int .u8 10), .p (.int .u8 25), .p (.int .u8 14), .p (.int .u8 19), .p (.int .u8 9), .p (.int .u8 13), .p (.int .u8 8), .p (.int .u8 7), .p (.int .u8 6)]), (0, [.p (.int .u64 1), .p (.int .u64 10), .p (.int .u64 100), .p (.int .u64 1000), .p (.int .u64 10000), .p (.int .u64 100000), .p (.int .u64 1000000), .p (.int .u64 10000000), .p (.int .u64 100000000), .p (.int .u64 1000000000), .p (.int .u64 10000000000), .p (.int .u64 100000000000), .p (.int .u64 1000000000000), .p (.int .u64 10000000000000), .p (.int .u64 100000000000000), .p (.int .u64 1000000000000000), .p (.int .u64 10000000000000000), .p (.int .u64 100000000000000000), .p (.int .u64 1000000000000000000), .p (.int .u64 10000000000000000000)])]
noncomputable def En0 : Env := { P := Go.Proofs.Tryz.prog, glob := lookN globTab, esc := escOf, prim := fun _ _ _ _ => False }
noncomputable def En : Env := { P := Go.Proofs.Tryz.prog, glob := lookN globTab, esc := escOf, prim := fzPrim En0 }
theorem En_ok : PrimOk En := fzPrim_ok (E := En) (E0 := En0) rfl rfl rfl
theorem En_mono : PrimMono En := fzPrim_mono (E := En) (E0 := En0) rfl
theorem frz {f : FuncId} {args zs : List V} {g : G} {Q : V → G → Prop} (hz : FzA args zs) (h : Ev En (.call f zs g Q)) : Ev En (.call f args g Q) := Ev.frz (E := En) (E0 := En0) rfl rfl rfl hz h
end Go.Vm
