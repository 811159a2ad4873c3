/- Part 11 of the texts that the claim leans on: a judgement on the program over plain values, its soundness, and contracts of functions. -/
import Derived.Test.YtmknnanbmkmnjaaGreatDoorW10
set_option linter.unusedVariables false
set_option linter.unusedSimpArgs false
set_option linter.unusedVariables false
namespace Go.Vm
open Go
structure Fq where
 tr : Tr
 rg : List (Nat × (Nat × List V))
def Fq.st (nt : Nat) (esc : Nat → Bool) (g : G) (x : Fq) : St := { nt := nt, tm := fun t => x.tr.get t, rg := fun t => rgGet x.rg t, esc := esc, g := g }
def Fq.put (nt : Nat) (x : Fq) (dst : Option Tmp) (v : V) : Option Fq :=
 match dst with
 | none => some x
 | some d => bif Nat.blt d nt && Nat.blt d 4000 then some { x with tr := x.tr.set 12 d v } else none
def quietOp (E : Env) (esc : Nat → Bool) (s : St) (o : Oper) : Bool :=
 match o.op with
 | .store _ a _ => match s.ev E a with
  | some (.loc _ _ _) => true
  | _ => false
 | _ => match clOf esc o with
  | .q => true
  | .r => true
  | .l => near esc o
  | _ => false
def sealAll (rs : List ResultVar) (E : Env) (s : St) : Option (List V) :=
 match resOf E s rs with
 | none => none
 | some vs => sealL s.g vs
section
variable (E : Env) (g : G)
mutual
def qC : Nat → FuncId → Nat → Code → Fq → Option (X × Fq)
 | 0, _, _, _, _ => none
 | n + 1, F, nt, c, x => match c with
  | .skip => some (.normal, x)
  | .ret => some (.ret, x)
  | .exit id => some (.exit id, x)
  | .seq a b => match qC n F nt a x with
   | none => none
   | some (.normal, y) => qC n F nt b y
   | some (.exit i, y) => some (.exit i, y)
   | some (.ret, y) => some (.ret, y)
  | .cond c a b => match (x.st nt (E.esc F) g).ev E c with
   | some (.p (.bool true)) => qC n F nt a x
   | some (.p (.bool false)) => qC n F nt b x
   | _ => none
  | .block id b => match qC n F nt b x with
   | none => none
   | some (.exit id', y) => bif Nat.beq id' id then some (.normal, y) else some (.exit id', y)
   | some (.normal, y) => some (.normal, y)
   | some (.ret, y) => some (.ret, y)
  | .loop b => match qC n F nt b x with
   | none => none
   | some (.normal, y) => qC n F nt (.loop b) y
   | some (.exit i, y) => some (.exit i, y)
   | some (.ret, y) => some (.ret, y)
  | .region id ops d => match d with
   | false => match qO n F nt ops (List.range ops.size) x with
    | none => none
    | some y => some (.normal, y)
   | true => bif tabOk ops (aheads ops) && ordOk (fun _ => true) (E.esc F) ops (aheads ops) 0 (List.range ops.size) then
     (match qO n F nt ops (List.range ops.size) x with
     | none => none
     | some y => some (.normal, y))
    else none
  | _ => none
def qO : Nat → FuncId → Nat → Array Oper → List Nat → Fq → Option Fq
 | 0, _, _, _, _, _ => none
 | n + 1, F, nt, ops, l, x => match l with
  | [] => some x
  | i :: l => match ops[i]? with
   | none => none
   | some o => match wants ops (x.st nt (E.esc F) g) o with
    | none => none
    | some false => match x.put nt o.dst .undef with
     | none => none
     | some y => qO n F nt ops l y
    | some true => match callOf E (x.st nt (E.esc F) g) o with
     | some (f, args) => match qF n f args with
      | none => none
      | some r => match x.put nt o.dst r with
       | none => none
       | some y => qO n F nt ops l y
     | none => bif quietOp E (E.esc F) (x.st nt (E.esc F) g) o then
       match stepV E (x.st nt (E.esc F) g) o with
       | none => none
       | some (v, s) => match rgAfter x.rg (rgKey E (x.st nt (E.esc F) g) o) s with
        | none => none
        | some rg => match Fq.put nt { tr := x.tr, rg := rg } o.dst v with
         | none => none
         | some y => qO n F nt ops l y
      else none
def qF : Nat → FuncId → List V → Option V
 | 0, _, _ => none
 | n + 1, f, args => match E.P.funcs[f]? with
  | none => none
  | some fn => match fn.body with
   | none => none
   | some body => bif Nat.ble args.length fn.ntmps && Nat.blt args.length 4000 then
     match qC n f fn.ntmps body { tr := Tr.args 0 .nil args, rg := [] } with
     | some (.exit _, _) => none
     | none => none
     | some (_, y) => match sealAll fn.results.toList E (y.st fn.ntmps (E.esc f) g) with
      | none => none
      | some ws => some (pack ws)
    else none
end
end
section
variable {E : Env} {nt : Nat} {esc : Nat → Bool} {g : G}
theorem putq {x y : Fq} {dst : Option Tmp} {v : V} (h : x.put nt dst v = some y) : (x.st nt esc g).put dst v = some (y.st nt esc g) := by
 have : Fr.put nt { tr := x.tr, rg := x.rg, g := g } dst v = some { tr := y.tr, rg := y.rg, g := g } := by
  unfold Fq.put at h
  unfold Fr.put
  cases dst with
  | none => cases h; rfl
  | some d =>
   simp only at h ⊢
   cases hc : Nat.blt d nt && Nat.blt d 4000 with
   | false => rw [hc] at h; cases h
   | true => rw [hc] at h; cases h; rfl
 exact put_fr this
theorem quiet_g {s s1 : St} {o : Oper} {v : V} (hq : quietOp E s.esc s o = true) (h : stepV E s o = some (v, s1)) : s1.g = s.g := by
 unfold quietOp at hq
 split at hq
 ·rename_i t a x ho
  split at hq
  ·rename_i i G off ha
   obtain ⟨dst, op, type, pos, after, guard⟩ := o
   simp only at ho
   subst ho
   simp only [stepV, ha] at h
   split at h
   ·split at h
    ·obtain ⟨y, hy, e⟩ := Option.map_eq_some_iff.1 h
     cases e
     rename_i hp _ _ _
     cases hp
     unfold St.storeCells at hy
     split at hy
     ·simp only at hy
      split at hy
      ·split at hy
       ·obtain ⟨cs, _, rfl⟩ := Option.map_eq_some_iff.1 hy; rfl
       ·cases hy
      ·cases hy
     ·cases hy
    ·cases h
   ·cases h
  ·cases hq
 ·split at hq
  ·rename_i hc; rw [stepV_q hc h]
  ·rename_i hc; rw [(stepV_r hc h).1]
  ·rename_i hc
   obtain ⟨t, cs, _, rfl, _⟩ := near_step hc hq h
   rfl
  ·cases hq
inductive Dos (E : Env) (cl : Nat → Bool) (ops : Array Oper) : List Nat → St → St → Prop where
 | nil {s} : Dos E cl ops [] s s
 | cons {i l s s' s'' o} : ops[i]? = some o → Do E cl ops i s s' → Dos E cl ops l s' s'' → Dos E cl ops (i :: l) s s''
theorem Dos.ev {cl : Nat → Bool} {ops : Array Oper} {l : List Nat} {s s' : St} {K : St → Prop} (h : Dos E cl ops l s s') (hk : K s') : Ev E (.ops ops l s K) := by
 induction h with
 | nil => exact .nil hk
 | cons _ hd _ ih => exact hd.ev (ih hk)
theorem Dos.evM {cl : Nat → Bool} {esc : Nat → Bool} {ops : Array Oper} {tab : List Nat} {K : St → Prop} {l : List Nat} {s s' : St} (h : Dos E cl ops l s s') (hk : K s') :
  ∀ (mask n : Nat), l.length ≤ n → ordOk cl esc ops tab mask l = true → EvM E cl esc ops tab K n mask s := by
 induction h with
 | nil =>
  intro mask n _ ho
  unfold ordOk at ho
  split at ho
  ·rename_i hr; exact .done hr hk
  ·cases ho
 | @cons i l s s' s'' o hoo hd _ ih =>
  intro mask n hn ho
  unfold ordOk at ho
  split at ho
  ·rename_i j hf
   simp only [Bool.and_eq_true] at ho
   have hij := Nat.eq_of_beq_eq_true ho.1
   subst hij
   obtain ⟨m, rfl⟩ : ∃ m, n = m + 1 := ⟨n - 1, by simp only [List.length_cons] at hn; omega⟩
   exact .one false hf hoo rfl hd (ih hk _ m (by simp only [List.length_cons] at hn; omega) ho.2)
  ·cases ho
structure TQ (E : Env) (g : G) (n : Nat) : Prop where
 c : ∀ F nt c x e y, qC E g n F nt c x = some (e, y) → ∀ R : X → St → Prop, R e (y.st nt (E.esc F) g) → Ev E (.code c (x.st nt (E.esc F) g) R)
 o : ∀ F nt ops l x y, qO E g n F nt ops l x = some y → Dos E (fun _ => true) ops l (x.st nt (E.esc F) g) (y.st nt (E.esc F) g)
 f : ∀ f args r, qF E g n f args = some r → ∀ g', g'.objs = g.objs → g'.toks = g.toks → Ev E (.call f args g' fun v g'' => v = r ∧ g'' = g')
theorem enter_q {fn : Func} {f : FuncId} {args : List V} {g0 g : G} (h : args.length ≤ 4000) (h1 : g0.objs = g.objs) (h2 : g0.toks = g.toks) (h3 : g.wo = g.objs.length) (h4 : g.wt = g.toks.length) : Fq.st fn.ntmps (E.esc f) g { tr := Tr.args 0 .nil args, rg := [] } = enter E fn f args g0 := by
 have := enter_st (E := E) (fn := fn) (f := f) (args := args) (g := g0) h
 rw [← this]
 unfold enterX Fr.st Fq.st
 simp only [St.mk.injEq, true_and]
 cases g; cases g0
 simp only at *
 subst h1 h2 h3 h4
 rfl
theorem tq (hm : E.P.follows .mixedOrders = true) (h1 : g.wo = g.objs.length) (h2 : g.wt = g.toks.length) : ∀ n, TQ E g n := by
 intro n
 induction n with
 | zero =>
  refine ⟨?_, ?_, ?_⟩
  ·intro F nt c x e y h; simp [qC] at h
  ·intro F nt ops l x y h; simp [qO] at h
  ·intro f args r h; simp [qF] at h
 | succ n ih =>
  refine ⟨?_, ?_, ?_⟩
  ·intro F nt c x e y h R hR
   unfold qC at h
   split at h
   ·cases h; exact .skip hR
   ·cases h; exact .ret hR
   ·cases h; exact .exit hR
   ·rename_i a b
    split at h
    ·cases h
    ·rename_i y' hy
     refine .seq (fun e' s' => e' = .normal ∧ s' = y'.st nt (E.esc F) g) (ih.c F nt a x _ y' hy _ ⟨rfl, rfl⟩) (fun s' hs => ?_) (fun e' s' he hs => absurd hs.1 he)
     obtain ⟨_, rfl⟩ := hs
     exact ih.c F nt b y' e y h R hR
    ·rename_i i y' hy
     cases h
     refine .seq (fun e' s' => e' = .exit i ∧ s' = y.st nt (E.esc F) g) (ih.c F nt a x _ y hy _ ⟨rfl, rfl⟩) (fun s' hs => by cases hs.1) (fun e' s' he hs => ?_)
     obtain ⟨rfl, rfl⟩ := hs; exact hR
    ·rename_i y' hy
     cases h
     refine .seq (fun e' s' => e' = .ret ∧ s' = y.st nt (E.esc F) g) (ih.c F nt a x _ y hy _ ⟨rfl, rfl⟩) (fun s' hs => by cases hs.1) (fun e' s' he hs => ?_)
     obtain ⟨rfl, rfl⟩ := hs; exact hR
   ·rename_i c a b
    split at h
    ·rename_i hc; exact .cond true hc (ih.c F nt a x e y h R hR)
    ·rename_i hc; exact .cond false hc (ih.c F nt b x e y h R hR)
    ·cases h
   ·rename_i id b
    split at h
    ·cases h
    ·rename_i id' y' hy
     cases hb : Nat.beq id' id with
     | true =>
      rw [hb] at h
      cases h
      refine .block (fun e' s' => e' = .exit id' ∧ s' = y.st nt (E.esc F) g) (ih.c F nt b x _ y hy _ ⟨rfl, rfl⟩) (fun s' hs => by cases hs.1) (fun i s' hs => ?_) (fun s' hs => by cases hs.1)
      obtain ⟨he, rfl⟩ := hs
      cases he
      rw [if_pos (beq_eq hb)]; exact hR
     | false =>
      rw [hb] at h
      cases h
      refine .block (fun e' s' => e' = .exit id' ∧ s' = y.st nt (E.esc F) g) (ih.c F nt b x _ y hy _ ⟨rfl, rfl⟩) (fun s' hs => by cases hs.1) (fun i s' hs => ?_) (fun s' hs => by cases hs.1)
      obtain ⟨he, rfl⟩ := hs
      cases he
      rw [if_neg (fun e => by rw [e, Nat.beq_refl] at hb; cases hb)]; exact hR
    ·rename_i y' hy
     cases h
     refine .block (fun e' s' => e' = .normal ∧ s' = y.st nt (E.esc F) g) (ih.c F nt b x _ y hy _ ⟨rfl, rfl⟩) (fun s' hs => by rw [hs.2]; exact hR) (fun i s' hs => by cases hs.1) (fun s' hs => by cases hs.1)
    ·rename_i y' hy
     cases h
     refine .block (fun e' s' => e' = .ret ∧ s' = y.st nt (E.esc F) g) (ih.c F nt b x _ y hy _ ⟨rfl, rfl⟩) (fun s' hs => by cases hs.1) (fun i s' hs => by cases hs.1) (fun s' hs => by rw [hs.2]; exact hR)
   ·rename_i b
    split at h
    ·cases h
    ·rename_i y' hy
     refine .loop (fun e' s' => e' = .normal ∧ s' = y'.st nt (E.esc F) g) (ih.c F nt b x _ y' hy _ ⟨rfl, rfl⟩) (fun s' hs => ?_) (fun e' s' he hs => absurd hs.1 he)
     obtain ⟨_, rfl⟩ := hs
     exact ih.c F nt _ y' e y h R hR
    ·rename_i i y' hy
     cases h
     refine .loop (fun e' s' => e' = .exit i ∧ s' = y.st nt (E.esc F) g) (ih.c F nt b x _ y hy _ ⟨rfl, rfl⟩) (fun s' hs => by cases hs.1) (fun e' s' he hs => ?_)
     obtain ⟨rfl, rfl⟩ := hs; exact hR
    ·rename_i y' hy
     cases h
     refine .loop (fun e' s' => e' = .ret ∧ s' = y.st nt (E.esc F) g) (ih.c F nt b x _ y hy _ ⟨rfl, rfl⟩) (fun s' hs => by cases hs.1) (fun e' s' he hs => ?_)
     obtain ⟨rfl, rfl⟩ := hs; exact hR
   ·rename_i id ops d
    split at h
    ·split at h
     ·cases h
     ·rename_i y' hy
      cases h
      exact .region ((ih.o F nt ops _ x y hy).ev hR)
    ·cases ht : tabOk ops (aheads ops) && ordOk (fun _ => true) (E.esc F) ops (aheads ops) 0 (List.range ops.size) with
     | false => rw [ht] at h; cases h
     | true =>
      rw [ht] at h
      simp only [cond_true] at h
      simp only [Bool.and_eq_true] at ht
      split at h
      ·cases h
      ·rename_i y' hy
       cases h
       exact EvM.sound hm ht.1 ((ih.o F nt ops _ x y hy).evM hR 0 ops.size (by simp) ht.2)
   ·cases h
  ·intro F nt ops l x y h
   unfold qO at h
   split at h
   ·cases h; exact .nil
   ·rename_i i l
    split at h
    ·cases h
    ·rename_i o ho
     split at h
     ·cases h
     ·rename_i hw
      split at h
      ·cases h
      ·rename_i y' hy; exact .cons ho (.skip ho hw (putq hy)) (ih.o F nt ops l y' y h)
     ·rename_i hw
      split at h
      ·rename_i f args hc
       split at h
       ·cases h
       ·rename_i r hr
        split at h
        ·cases h
        ·rename_i y' hy
         exact .cons ho (.call (v := r) (g := g) ho hw hc (ih.f f args r hr g rfl rfl) (fun _ => rfl) (putq hy)) (ih.o F nt ops l y' y h)
      ·cases hq : quietOp E (E.esc F) (x.st nt (E.esc F) g) o with
       | false => rw [hq] at h; cases h
       | true =>
        rw [hq] at h
        simp only [cond_true] at h
        split at h
        ·cases h
        ·rename_i v s hs
         split at h
         ·cases h
         ·rename_i rg hrg
          split at h
          ·cases h
          ·rename_i y' hy
           have hg : s.g = g := quiet_g (s := x.st nt (E.esc F) g) hq hs
           have := st_after (x := { tr := x.tr, rg := x.rg, g := g }) (nt := nt) (esc := E.esc F) hs hrg
           refine .cons ho (.step ho hw hs ?_) (ih.o F nt ops l y' y h)
           rw [← this, hg]
           exact putq hy
  ·intro f args r h g' hg1 hg2
   unfold qF at h
   split at h
   ·cases h
   ·rename_i fn hfn
    split at h
    ·cases h
    ·rename_i body hbody
     cases hc : Nat.ble args.length fn.ntmps && Nat.blt args.length 4000 with
     | false => rw [hc] at h; cases h
     | true =>
      rw [hc] at h
      simp only [cond_true] at h
      simp only [Bool.and_eq_true] at hc
      have a1 : args.length ≤ fn.ntmps := Nat.le_of_ble_eq_true hc.1
      have a2 : args.length < 4000 := Nat.le_of_ble_eq_true hc.2
      have fin : ∀ e y, (e = .normal ∨ e = .ret) → qC E g n f fn.ntmps body { tr := Tr.args 0 .nil args, rg := [] } = some (e, y) → (match sealAll fn.results.toList E (y.st fn.ntmps (E.esc f) g) with
        | none => none
        | some ws => some (pack ws)) = some r → Ev E (.call f args g' fun v g'' => v = r ∧ g'' = g') := by
       intro e y he hq hs
       have hev := ih.c f fn.ntmps body _ e y hq (fun e' s' => e' = e ∧ s' = y.st fn.ntmps (E.esc f) g) ⟨rfl, rfl⟩
       rw [enter_q (E := E) (by omega) hg1 hg2 h1 h2] at hev
       refine .fnClean _ hfn hbody a1 hev fun e' s' hq => ?_
       obtain ⟨rfl, rfl⟩ := hq
       unfold sealAll at hs
       split at hs
       ·cases hs
       ·rename_i ws hws
        cases hs
        split at hws
        ·cases hws
        ·rename_i vs hvs
         exact ⟨he, vs, ws, hvs, hws, by rw [hg1]; exact h1, by rw [hg2]; exact h2, rfl, rfl⟩
      split at h
      ·cases h
      ·cases h
      ·rename_i e y hne hq
       refine fin e y ?_ hq h
       cases e with
       | normal => exact Or.inl rfl
       | ret => exact Or.inr rfl
       | exit i => exact absurd rfl (hne i)
theorem pure_quiet (hm : E.P.follows .mixedOrders = true) {n : Nat} {f : FuncId} {args : List V} {r : V} (h : ∀ g, qF E g n f args = some r) : Pure E f args r :=
 fun g => (tq (g := { g with wo := g.objs.length, wt := g.toks.length }) hm rfl rfl n).f f args r (h _) g rfl rfl
end
end Go.Vm
set_option linter.unusedVariables false
namespace Go.Vm
open Go Go.Proofs
attribute [local irreducible] wpL
set_option maxRecDepth 20000 in
theorem indexS_ok {v : V} {a : List ByteArray} (hv : Rd eStr v a) (s : ByteArray) (ha : a.length < 2 ^ 60) : Pure En 188 [v, .p (.str s)] (.p (.int .i64 (idxP (fun w => s.toList == w.toList) a))) := by
  refine pure_walk [(0, v), (1, .p (.str s))] Tryz.func188 rfl rfl rfl fun g hwo hwt => ?_
  show Wc En _ (Tryz.f188.body.getD .skip) [] (Sx 19 _ _ _ _ _ _)
  unfold Tryz.f188
  simp only [Option.getD_some]
  refine wc_seq (wc_reg fun K hK => ?_)
  refine x_assign rfl rfl rfl ?_
  refine x_nil (hK _ ?_); clear hK K
  refine go_seq (wc_seq (wc_seq (wc_reg fun K hK => ?_)))
  refine x_move rfl rfl rfl ?_
  refine x_len rfl rfl rfl (by first | assumption | exact Rd.enc) und35 ?_
  refine x_move rfl rfl rfl ?_
  refine x_nil (hK _ ?_); clear hK K
  refine go_seq (wc_block ?_)
  refine xc_loop [(0, _), (1, _), (7, _)] [] (fun j : Nat => [(8, .p (.int .i64 j))]) (fun j : Nat => j ≤ a.length ∧ ∀ i, i < j → ∃ c, a[i]? = some c ∧ (!(s.toList == c.toList)) = true) (fun j : Nat => a.length - j) 0 (by repeat first | exact trivial | refine .intro rfl ?_) (by repeat first | exact trivial | refine .intro rfl ?_) ⟨Nat.zero_le _, fun i hi => by omega⟩ ?_
  rintro j R hR1 hR2 ⟨hj, hr⟩ b rb
  refine wc_seq (wc_reg fun K hK => ?_)
  refine x_bin rfl rfl rfl rfl rfl ?_
  refine x_nil (hK _ ?_); clear hK K
  refine go_seq (wc_seq ?_)
  refine xc_cond _ rfl (fun hc0 => ?_) (fun hc0 => ?_)
  · skip
    have hlt : j < a.length := by simp at hc0; omega
    have e1 : a[j]? = some a[j] := by simp
    refine wc_skip (go_seq (wc_seq (wc_block (wc_seq (wc_reg fun K hK => ?_)))))
    refine x_move rfl rfl rfl ?_
    refine x_assign rfl rfl rfl ?_
    refine x_nil (hK _ ?_); clear hK K
    refine go_seq (wc_seq (wc_reg fun K hK => ?_))
    refine x_move rfl rfl rfl ?_
    refine x_move rfl rfl rfl ?_
    refine x_move rfl rfl rfl ?_
    refine x_ia rfl rfl rfl (by first | assumption | exact Rd.enc) rfl und35 sz9 rfl (by assumption) rfl ?_
    refine x_ldR rfl rfl rfl isag9 rfl ?_
    refine x_bin rfl rfl rfl rfl rfl ?_
    refine x_nil (hK _ ?_); clear hK K
    refine go_seq ?_
    refine xc_cond _ rfl (fun hc1 => ?_) (fun hc1 => ?_)
    · skip
      refine wc_seq (wc_reg fun K hK => ?_)
      refine x_move rfl rfl rfl ?_
      refine x_assign rfl rfl rfl ?_
      refine x_nil (hK _ ?_); clear hK K
      refine go_seq (wc_ret (go_blk_ret (go_seq_ret ?_)))
      refine hR2 _ _ (by simp) ?_
      refine go_blk_ret (go_seq_ret ?_)
      exact x_end1 (Or.inr rfl) rfl rfl rfl rfl rfl rfl (ieq (idxP_at hr e1 hc1).symm)
    · skip
      refine wc_skip (go_blk (go_seq (wc_reg fun K hK => ?_)))
      refine x_inc rfl rfl rfl rfl (by omega) ?_
      refine x_move rfl rfl rfl ?_
      refine x_nil (hK _ ?_); clear hK K
      exact hR1 (j + 1) _ _ _ _ ⟨hlt, leadP_up hr e1 (by rw [hc1]; rfl)⟩ (by omega) (by repeat first | exact trivial | refine .intro rfl ?_) (by repeat first | exact trivial | refine .intro rfl ?_)
  · skip
    refine wc_exit ?_
    refine go_seq_exit ?_
    refine hR2 _ _ (by simp) ?_
    refine go_blk_exit (go_seq (wc_seq (wc_reg fun K hK => ?_)))
    refine x_assign rfl rfl rfl ?_
    refine x_nil (hK _ ?_); clear hK K
    refine go_seq (wc_ret ?_)
    exact x_end1 (Or.inr rfl) rfl rfl rfl rfl rfl rfl (ieq (idxP_no (fun i hi => hr i (by simp at hc0; omega))).symm)
set_option maxRecDepth 20000 in
theorem containsS_ok {v : V} {a : List ByteArray} (hv : Rd eStr v a) (s : ByteArray) (ha : a.length < 2 ^ 60) : Pure En 167 [v, .p (.str s)] (.p (.bool (a.any (fun w => s.toList == w.toList)))) := by
  refine pure_walk [(0, v), (1, .p (.str s))] Tryz.func167 rfl rfl rfl fun g hwo hwt => ?_
  show Wc En _ (Tryz.f167.body.getD .skip) [] (Sx 9 _ _ _ _ _ _)
  unfold Tryz.f167
  simp only [Option.getD_some]
  refine wc_seq (wc_reg fun K hK => ?_)
  refine x_assign rfl rfl rfl ?_
  refine x_nil (hK _ ?_); clear hK K
  refine go_seq (wc_seq (wc_reg fun K hK => ?_))
  refine x_move rfl rfl rfl ?_
  refine x_move rfl rfl rfl ?_
  refine x_call rfl rfl rfl (by repeat (first | exact ho_nil | refine ho_cons (by first | rfl | exact rd_ho (by assumption)) ?_)) okf188 (indexS_ok hv s ha _) ?_
  refine x_bin rfl rfl rfl rfl rfl ?_
  refine x_assign rfl rfl rfl ?_
  refine x_nil (hK _ ?_); clear hK K
  refine go_seq (wc_ret ?_)
  exact x_end1 (Or.inr rfl) rfl rfl rfl rfl rfl rfl (veq (by rw [← idxP_ge]))
theorem words_ok : Pure En 193 [] (.p (.sl (wordsL.map eStr))) := pure_quiet mixed (n := 100) fun g => by kernel_rfl
set_option maxRecDepth 20000 in
theorem isWord_ok (s : ByteArray) : Pure En 175 [.p (.str s)] (.p (.bool (isWordB s))) := by
  refine pure_walk [(0, .p (.str s))] Tryz.func175 rfl rfl rfl fun g hwo hwt => ?_
  show Wc En _ (Tryz.f175.body.getD .skip) [] (Sx 6 _ _ _ _ _ _)
  unfold Tryz.f175
  simp only [Option.getD_some]
  refine wc_seq (wc_reg fun K hK => ?_)
  refine x_assign rfl rfl rfl ?_
  refine x_nil (hK _ ?_); clear hK K
  refine go_seq (wc_seq (wc_reg fun K hK => ?_))
  refine x_call rfl rfl rfl (by repeat (first | exact ho_nil | refine ho_cons (by first | rfl | exact rd_ho (by assumption)) ?_)) okf193 (words_ok _) ?_
  refine x_move rfl rfl rfl ?_
  refine x_call rfl rfl rfl (by repeat (first | exact ho_nil | refine ho_cons (by first | rfl | exact rd_ho (by assumption)) ?_)) okf167 (containsS_ok (Rd.p wordsL) s (by decide) _) ?_
  refine x_assign rfl rfl rfl ?_
  refine x_nil (hK _ ?_); clear hK K
  refine go_seq (wc_ret ?_)
  exact x_end1 (Or.inr rfl) rfl rfl rfl rfl rfl rfl rfl
set_option maxRecDepth 20000 in
theorem isName_ok (s : ByteArray) (hs : s.size < 2 ^ 60) : Pure En 145 [.p (.str s)] (.p (.bool (isNameB s))) := by
  refine pure_walk [(0, .p (.str s))] Tryz.func145 rfl rfl rfl fun g hwo hwt => ?_
  show Wc En _ (Tryz.f145.body.getD .skip) [] (Sx 22 _ _ _ _ _ _)
  unfold Tryz.f145
  simp only [Option.getD_some]
  refine wc_seq (wc_reg fun K hK => ?_)
  refine x_assign rfl rfl rfl ?_
  refine x_nil (hK _ ?_); clear hK K
  refine go_seq (wc_seq (wc_reg fun K hK => ?_))
  refine x_move rfl rfl rfl ?_
  refine x_bin rfl rfl rfl rfl rfl ?_
  refine x_moveS rfl rfl rfl (fun hg5 => ?_) (fun hg5 => ?_)
  · skip
    have hne : 0 < s.size := by
      have h5 : (!decide (s.size = 0)) = true := by rw [← empty_iff]; exact hg5
      simp only [Bool.not_eq_true', decide_eq_false_iff_not] at h5
      omega
    obtain ⟨c, l, hcl⟩ : ∃ c l, s.data.toList = c :: l := by
      cases h : s.data.toList with
      | nil => have : s.data.toList.length = s.size := by simp
               rw [h] at this; simp at this; omega
      | cons c l => exact ⟨c, l, rfl⟩
    have e0 : s[(0 : Int).toNat]? = some s[0] := by simp [hne]
    have e1 : s[0] = c := by
      have := (str_at hne).2
      rw [hcl] at this
      simpa using this.symm
    rw [e1] at e0
    refine x_move rfl rfl rfl ?_
    refine x_index rfl rfl rfl rfl und9 (by decide) e0 ?_
    refine x_call rfl rfl rfl (by repeat (first | exact ho_nil | refine ho_cons (by first | rfl | exact rd_ho (by assumption)) ?_)) okf172 (low_ok _ _) ?_
    refine x_pickT rfl rfl rfl rfl ?_
    refine x_moveS rfl rfl rfl (fun hg10 => ?_) (fun hg10 => ?_)
    · skip
      refine x_move rfl rfl rfl ?_
      refine x_call rfl rfl rfl (by repeat (first | exact ho_nil | refine ho_cons (by first | rfl | exact rd_ho (by assumption)) ?_)) okf173 (run_ok s hs _) ?_
      refine x_move rfl rfl rfl ?_
      refine x_lenStr rfl rfl rfl und9 ?_
      refine x_bin rfl rfl rfl rfl rfl ?_
      refine x_pickT rfl rfl rfl rfl ?_
      refine x_moveS rfl rfl rfl (fun hg17 => ?_) (fun hg17 => ?_)
      · skip
        refine x_move rfl rfl rfl ?_
        refine x_call rfl rfl rfl (by repeat (first | exact ho_nil | refine ho_cons (by first | rfl | exact rd_ho (by assumption)) ?_)) okf175 (isWord_ok s _) ?_
        refine x_not rfl rfl rfl ?_
        refine x_pickT rfl rfl rfl rfl ?_
        refine x_assign rfl rfl rfl ?_
        refine x_nil (hK _ ?_); clear hK K
        refine go_seq (wc_ret ?_)
        exact x_end1 (Or.inr rfl) rfl rfl rfl rfl rfl rfl (by congr 2; simp [isNameB, hcl, hg10]; simp [hcl] at hg17; intro _; omega)
      · skip
        refine x_skip rfl rfl ?_
        refine x_skip rfl rfl ?_
        refine x_skip rfl rfl ?_
        refine x_pickF rfl rfl rfl rfl ?_
        refine x_assign rfl rfl rfl ?_
        refine x_nil (hK _ ?_); clear hK K
        refine go_seq (wc_ret ?_)
        exact x_end1 (Or.inr rfl) rfl rfl rfl rfl rfl rfl (by congr 2; simp [isNameB, hcl, hg10]; simp [hcl] at hg17; intro h; omega)
    · skip
      refine x_skip rfl rfl ?_
      refine x_skip rfl rfl ?_
      refine x_skip rfl rfl ?_
      refine x_skip rfl rfl ?_
      refine x_skip rfl rfl ?_
      refine x_pickF rfl rfl rfl rfl ?_
      refine x_move rfl rfl rfl ?_
      refine x_skip rfl rfl ?_
      refine x_skip rfl rfl ?_
      refine x_skip rfl rfl ?_
      refine x_pickF rfl rfl rfl rfl ?_
      refine x_assign rfl rfl rfl ?_
      refine x_nil (hK _ ?_); clear hK K
      refine go_seq (wc_ret ?_)
      exact x_end1 (Or.inr rfl) rfl rfl rfl rfl rfl rfl (by congr 2; simp [isNameB, hcl, hg10])
  · skip
    refine x_skip rfl rfl ?_
    refine x_skip rfl rfl ?_
    refine x_skip rfl rfl ?_
    refine x_pickF rfl rfl rfl rfl ?_
    refine x_move rfl rfl rfl ?_
    refine x_skip rfl rfl ?_
    refine x_skip rfl rfl ?_
    refine x_skip rfl rfl ?_
    refine x_skip rfl rfl ?_
    refine x_skip rfl rfl ?_
    refine x_pickF rfl rfl rfl rfl ?_
    refine x_move rfl rfl rfl ?_
    refine x_skip rfl rfl ?_
    refine x_skip rfl rfl ?_
    refine x_skip rfl rfl ?_
    refine x_pickF rfl rfl rfl rfl ?_
    refine x_assign rfl rfl rfl ?_
    refine x_nil (hK _ ?_); clear hK K
    refine go_seq (wc_ret ?_)
    exact x_end1 (Or.inr rfl) rfl rfl rfl rfl rfl rfl (by
    have h5 : (!decide (s.size = 0)) = false := by rw [← empty_iff]; exact hg5
    have : s.data.toList = [] := by
      apply List.eq_nil_of_length_eq_zero; simp at h5; simpa using h5
    congr 2; simp [isNameB, this])
set_option maxRecDepth 20000 in
theorem tag_ok (s : ByteArray) (hs : s.size < 2 ^ 60) : Pure En 149 [.p (.str s)] (.p (.bool (tagB s))) := by
  refine pure_walk [(0, .p (.str s))] Tryz.func149 rfl rfl rfl fun g hwo hwt => ?_
  show Wc En _ (Tryz.f149.body.getD .skip) [] (Sx 9 _ _ _ _ _ _)
  unfold Tryz.f149
  simp only [Option.getD_some]
  refine wc_seq (wc_reg fun K hK => ?_)
  refine x_assign rfl rfl rfl ?_
  refine x_nil (hK _ ?_); clear hK K
  refine go_seq (wc_seq (wc_reg fun K hK => ?_))
  refine x_move rfl rfl rfl ?_
  refine x_call rfl rfl rfl (by repeat (first | exact ho_nil | refine ho_cons (by first | rfl | exact rd_ho (by assumption)) ?_)) okf145 (isName_ok s hs _) ?_
  refine x_moveS rfl rfl rfl (fun hg5 => ?_) (fun hg5 => ?_)
  · skip
    refine x_skip rfl rfl ?_
    refine x_skip rfl rfl ?_
    refine x_pickT rfl rfl rfl rfl ?_
    refine x_assign rfl rfl rfl ?_
    refine x_nil (hK _ ?_); clear hK K
    refine go_seq (wc_ret ?_)
    exact x_end1 (Or.inr rfl) rfl rfl rfl rfl rfl rfl (by simp_all [tagB])
  · skip
    refine x_move rfl rfl rfl ?_
    refine x_call rfl rfl rfl (by repeat (first | exact ho_nil | refine ho_cons (by first | rfl | exact rd_ho (by assumption)) ?_)) okf175 (isWord_ok s _) ?_
    refine x_pickF rfl rfl rfl rfl ?_
    refine x_assign rfl rfl rfl ?_
    refine x_nil (hK _ ?_); clear hK K
    refine go_seq (wc_ret ?_)
    exact x_end1 (Or.inr rfl) rfl rfl rfl rfl rfl rfl (by simp_all [tagB])
end Go.Vm
set_option linter.unusedVariables false
namespace Go.Vm
open Go Go.Proofs
attribute [local irreducible] wpL
set_option maxRecDepth 20000 in
theorem once_ok {v : V} {a : List ByteArray} (hv : Rd eStr v a) (ha : a.length < 2 ^ 60) : Pure En 147 [v] (.p (.bool (decide a.Nodup))) := by
 refine pure_walk [(0, v)] Tryz.func147 rfl rfl rfl fun g hwo hwt => ?_
 show Wc En _ (Tryz.f147.body.getD .skip) [] (Sx 19 _ _ _ _ _ _)
 unfold Tryz.f147
 simp only [Option.getD_some]
 rw [← G.ext_nil g]
 refine wc_seq (wc_reg fun K hK => ?_)
 refine x_assign rfl rfl rfl ?_
 refine x_nil (hK _ (go_seq (wc_seq (wc_reg fun K hK => ?_))))
 refine x_mkmap rfl rfl ?_
 refine x_assign rfl rfl rfl ?_
 refine x_nil (hK _ (go_seq (wc_seq (wc_seq (wc_reg fun K hK => ?_)))))
 refine x_move rfl rfl rfl ?_
 refine x_len rfl rfl rfl (by first | assumption | exact Rd.enc) und35 ?_
 refine x_move rfl rfl rfl ?_
 refine x_nil (hK _ (go_seq (wc_block ?_)))
 refine xc_loopG [(3, _), (7, _), (8, _)] [] (fun j : Nat => [(9, .p (.int .i64 j))]) (fun j : Nat => []) (fun j : Nat => g.ext [.map (esS (a.take j)) j] []) (fun j : Nat => j ≤ a.length ∧ (a.take j).Nodup) (fun j : Nat => a.length - j) 0 (by repeat first | exact trivial | refine .intro rfl ?_) (by repeat first | exact trivial | refine .intro rfl ?_) rfl ⟨Nat.zero_le _, by simp⟩ ?_
 rintro j R hR1 hR2 ⟨hj, hr⟩ b rb
 refine wc_seq (wc_reg fun K hK => ?_)
 refine x_bin rfl rfl rfl rfl rfl ?_
 refine x_nil (hK _ (go_seq (wc_seq ?_)))
 refine xc_cond _ rfl (fun hc0 => ?_) (fun hc0 => ?_)
 ·have hlt : j < a.length := by simp at hc0; omega
  have e1 : a[j]? = some a[j] := by simp
  refine wc_skip (go_seq (wc_seq (wc_block (wc_seq (wc_reg fun K hK => ?_)))))
  refine x_ia rfl rfl rfl (by first | assumption | exact Rd.enc) rfl und35 sz9 rfl (by assumption) rfl ?_
  refine x_ldR rfl rfl rfl isag9 rfl ?_
  refine x_assign rfl rfl rfl ?_
  refine x_nil (hK _ (go_seq (wc_seq (wc_seq (wc_reg fun K hK => ?_)))))
  refine x_move rfl rfl rfl ?_
  refine x_move rfl rfl rfl ?_
  refine x_lookup rfl rfl rfl rfl rfl und231 und9 zv4 rfl (esS_ok _) (findS _ _) ?_
  refine x_nil (hK _ (go_seq ?_))
  refine xc_cond _ rfl (fun hc1 => ?_) (fun hc1 => ?_)
  ·refine wc_seq (wc_reg fun K hK => ?_)
   refine x_assign rfl rfl rfl ?_
   refine x_nil (hK _ (go_seq (wc_ret (go_seq_ret (go_blk_ret (go_seq_ret ?_))))))
   refine hR2 _ _ (by simp) ?_
   refine go_blk_ret (go_seq_ret ?_)
   exact x_end1 (Or.inr rfl) rfl rfl rfl rfl rfl rfl (by rw [nodup_not hlt hc1])
  ·refine wc_skip (go_seq (wc_reg fun K hK => ?_))
   refine x_move rfl rfl rfl ?_
   refine x_move rfl rfl rfl ?_
   refine x_mapnew (Or.inl rfl) rfl hwo rfl rfl rfl rfl und231 und9 rfl (esS_ok _) rfl (findS_no hc1) ?_
   refine x_nil (hK _ (go_blk (go_seq (wc_reg fun K hK => ?_))))
   refine x_inc rfl rfl rfl rfl (by omega) ?_
   refine x_move rfl rfl rfl ?_
   refine x_nil (hK _ ?_); clear hK K
   exact hR1 (j + 1) _ _ _ _ _ ⟨hlt, nodup_take hlt hr hc1⟩ (by omega) (by repeat first | exact trivial | refine .intro rfl ?_) (by repeat first | exact trivial | refine .intro rfl ?_) (by rw [esS_take hlt]; rfl)
 ·refine wc_exit ?_
  refine go_seq_exit ?_
  refine hR2 _ _ (by simp) ?_
  refine go_blk_exit (go_seq (wc_seq (wc_reg fun K hK => ?_)))
  refine x_assign rfl rfl rfl ?_
  refine x_nil (hK _ (go_seq (wc_ret ?_)))
  have : a.take j = a := List.take_of_length_le (by simp at hc0; omega)
  exact x_end1 (Or.inr rfl) rfl rfl rfl rfl rfl rfl (by rw [this] at hr; simp [hr])
set_option maxRecDepth 20000 in
theorem indexFuncS_ok {g0 : G} {v : V} {a : List ByteArray} (hv : Rd eStr v a) (ha : a.length < 2 ^ 60) {fid : FuncId} {caps : List V} {p : ByteArray → Bool} (hok : okFn En fid = true) (hc : ∀ g, g.objs = g0.objs → g.toks = g0.toks → ∀ s, s ∈ a → CallsAt En g fid ([.p (.str s)] ++ caps) (.p (.bool (p s))) g) : CallsAt En g0 185 [v, .fn (.func fid) caps] (.p (.int .i64 (idxP p a))) g0 := by
 refine at_walk [(0, v), (1, .fn (.func fid) caps)] Tryz.func185 rfl rfl rfl fun g hgo hgt hwo hwt => ?_
 show Wc En _ (Tryz.f185.body.getD .skip) [] (Sx 19 _ _ _ _ _ _)
 unfold Tryz.f185
 simp only [Option.getD_some]
 refine wc_seq (wc_reg fun K hK => ?_)
 refine x_assign rfl rfl rfl ?_
 refine x_nil (hK _ (go_seq (wc_seq (wc_seq (wc_reg fun K hK => ?_)))))
 refine x_move rfl rfl rfl ?_
 refine x_len rfl rfl rfl (by first | assumption | exact Rd.enc) und35 ?_
 refine x_move rfl rfl rfl ?_
 refine x_nil (hK _ (go_seq (wc_block ?_)))
 refine xc_loop [(0, _), (1, _), (7, _)] [] (fun j : Nat => [(8, .p (.int .i64 j))]) (fun j : Nat => j ≤ a.length ∧ ∀ i, i < j → ∃ c, a[i]? = some c ∧ (!p c) = true) (fun j : Nat => a.length - j) 0 (by repeat first | exact trivial | refine .intro rfl ?_) (by repeat first | exact trivial | refine .intro rfl ?_) ⟨Nat.zero_le _, fun i hi => by omega⟩ ?_
 rintro j R hR1 hR2 ⟨hj, hr⟩ b rb
 refine wc_seq (wc_reg fun K hK => ?_)
 refine x_bin rfl rfl rfl rfl rfl ?_
 refine x_nil (hK _ (go_seq (wc_seq ?_)))
 refine xc_cond _ rfl (fun hc0 => ?_) (fun hc0 => ?_)
 ·have hlt : j < a.length := by simp at hc0; omega
  have e1 : a[j]? = some a[j] := by simp
  refine wc_skip (go_seq (wc_seq (wc_block (wc_seq (wc_reg fun K hK => ?_)))))
  refine x_move rfl rfl rfl ?_
  refine x_assign rfl rfl rfl ?_
  refine x_nil (hK _ (go_seq (wc_seq (wc_reg fun K hK => ?_))))
  refine x_move rfl rfl rfl ?_
  refine x_move rfl rfl rfl ?_
  refine x_move rfl rfl rfl ?_
  refine x_ia rfl rfl rfl (by first | assumption | exact Rd.enc) rfl und35 sz9 rfl (by assumption) rfl ?_
  refine x_ldR rfl rfl rfl isag9 rfl ?_
  refine x_callD rfl rfl rfl rfl (by repeat (first | exact ho_nil | refine ho_cons (by first | rfl | exact rd_ho (by assumption)) ?_)) hok (hc g hgo hgt _ (List.getElem_mem hlt)) ?_
  refine x_nil (hK _ (go_seq ?_))
  refine xc_cond _ rfl (fun hc1 => ?_) (fun hc1 => ?_)
  ·refine wc_seq (wc_reg fun K hK => ?_)
   refine x_move rfl rfl rfl ?_
   refine x_assign rfl rfl rfl ?_
   refine x_nil (hK _ (go_seq (wc_ret (go_blk_ret (go_seq_ret ?_)))))
   refine hR2 _ _ (by simp) ?_
   refine go_blk_ret (go_seq_ret ?_)
   exact x_end1 (Or.inr rfl) rfl rfl rfl rfl rfl rfl (ieq (idxP_at hr e1 hc1).symm)
  ·refine wc_skip (go_blk (go_seq (wc_reg fun K hK => ?_)))
   refine x_inc rfl rfl rfl rfl (by omega) ?_
   refine x_move rfl rfl rfl ?_
   refine x_nil (hK _ ?_); clear hK K
   exact hR1 (j + 1) _ _ _ _ ⟨hlt, leadP_up hr e1 (by rw [hc1]; rfl)⟩ (by omega) (by repeat first | exact trivial | refine .intro rfl ?_) (by repeat first | exact trivial | refine .intro rfl ?_)
 ·refine wc_exit ?_
  refine go_seq_exit ?_
  refine hR2 _ _ (by simp) ?_
  refine go_blk_exit (go_seq (wc_seq (wc_reg fun K hK => ?_)))
  refine x_assign rfl rfl rfl ?_
  refine x_nil (hK _ (go_seq (wc_ret ?_)))
  exact x_end1 (Or.inr rfl) rfl rfl rfl rfl rfl rfl (ieq (idxP_no (fun i hi => hr i (by simp at hc0; omega))).symm)
set_option maxRecDepth 20000 in
theorem containsFuncS_ok {g0 : G} {v : V} {a : List ByteArray} (hv : Rd eStr v a) (ha : a.length < 2 ^ 60) {fid : FuncId} {caps : List V} {p : ByteArray → Bool} (hok : okFn En fid = true) (hc : ∀ g, g.objs = g0.objs → g.toks = g0.toks → ∀ s, s ∈ a → CallsAt En g fid ([.p (.str s)] ++ caps) (.p (.bool (p s))) g) : CallsAt En g0 177 [v, .fn (.func fid) caps] (.p (.bool (a.any p))) g0 := by
 refine at_walk [(0, v), (1, .fn (.func fid) caps)] Tryz.func177 rfl rfl rfl fun g hgo hgt hwo hwt => ?_
 show Wc En _ (Tryz.f177.body.getD .skip) [] (Sx 9 _ _ _ _ _ _)
 unfold Tryz.f177
 simp only [Option.getD_some]
 refine wc_seq (wc_reg fun K hK => ?_)
 refine x_assign rfl rfl rfl ?_
 refine x_nil (hK _ (go_seq (wc_seq (wc_reg fun K hK => ?_))))
 refine x_move rfl rfl rfl ?_
 refine x_move rfl rfl rfl ?_
 refine x_call rfl rfl rfl (by repeat (first | exact ho_nil | refine ho_cons (by first | rfl | exact rd_ho (by assumption)) ?_)) okf185 (indexFuncS_ok hv ha hok (fun g2 h1 h2 => hc g2 (h1.trans hgo) (h2.trans hgt))) ?_
 refine x_bin rfl rfl rfl rfl rfl ?_
 refine x_assign rfl rfl rfl ?_
 refine x_nil (hK _ (go_seq (wc_ret ?_)))
 exact x_end1 (Or.inr rfl) rfl rfl rfl rfl rfl rfl (veq (by rw [← idxP_ge]))
set_option maxRecDepth 20000 in
theorem all1_ok {g0 : G} {id : Nat} {fid : FuncId} {s : ByteArray} {b : Bool} (ho : g0.objs[id]? = some (.cells [.fn (.func fid) []])) (hok : okFn En fid = true) (hp : Pure En fid [.p (.str s)] (.p (.bool b))) : CallsAt En g0 178 [.p (.str s), .ptr id 0] (.p (.bool (!b))) g0 := by
 refine at_walk [(0, .p (.str s)), (1, .ptr id 0)] Tryz.func178 rfl rfl rfl fun g hgo hgt hwo hwt => ?_
 show Wc En _ (Tryz.f178.body.getD .skip) [] (Sx 8 _ _ _ _ _ _)
 unfold Tryz.f178
 simp only [Option.getD_some]
 refine wc_seq (wc_reg fun K hK => ?_)
 refine x_assign rfl rfl rfl ?_
 refine x_nil (hK _ (go_seq (wc_seq (wc_reg fun K hK => ?_))))
 refine x_ldO rfl rfl rfl isag75 (by rw [hgo]; exact ho) rfl ?_
 refine x_move rfl rfl rfl ?_
 refine x_callD rfl rfl rfl rfl (by repeat (first | exact ho_nil | refine ho_cons (by first | rfl | exact rd_ho (by assumption)) ?_)) hok (hp _) ?_
 refine x_not rfl rfl rfl ?_
 refine x_assign rfl rfl rfl ?_
 refine x_nil (hK _ (go_seq (wc_ret ?_)))
 exact x_end1 (Or.inr rfl) rfl rfl rfl rfl rfl rfl rfl
set_option maxRecDepth 20000 in
theorem all_ok {v : V} {a : List ByteArray} (hv : Rd eStr v a) (ha : a.length < 2 ^ 60) {fid : FuncId} {p : ByteArray → Bool} (hok : okFn En fid = true) (hp : ∀ s, s ∈ a → Pure En fid [.p (.str s)] (.p (.bool (p s)))) : Pure En 148 [v, .fn (.func fid) []] (.p (.bool (a.all p))) := by
 refine pure_walk [(0, v), (1, .fn (.func fid) [])] Tryz.func148 rfl rfl rfl fun g hwo hwt => ?_
 show Wc En _ (Tryz.f148.body.getD .skip) [] (Sx 9 _ _ _ _ _ _)
 unfold Tryz.f148
 simp only [Option.getD_some]
 rw [← G.ext_nil g]
 refine wc_seq (wc_reg fun K hK => ?_)
 refine x_boxE rfl rfl rfl rfl rfl ?_
 refine x_assign rfl rfl rfl ?_
 refine x_nil (hK _ (go_seq (wc_seq (wc_reg fun K hK => ?_))))
 refine x_move rfl rfl rfl ?_
 refine x_mkfn rfl rfl rfl rfl ?_
 refine x_call rfl rfl rfl (by repeat (first | exact ho_nil | refine ho_cons (by first | rfl | exact rd_ho (by assumption)) ?_)) okf177 (containsFuncS_ok hv ha okf178 (fun g2 h1 h2 s hs => all1_ok (by rw [h1]; exact ext_obj) hok (hp s hs))) ?_
 refine x_not rfl rfl rfl ?_
 refine x_assign rfl rfl rfl ?_
 refine x_nil (hK _ (go_seq (wc_ret ?_)))
 exact x_end1 (Or.inr rfl) rfl rfl rfl rfl rfl rfl (veq (by rw [List.any_eq_not_all_not]; simp))
end Go.Vm
set_option linter.unusedVariables false
namespace Go.Vm
open Go Go.Proofs
attribute [local irreducible] wpL
set_option maxRecDepth 20000 in
theorem typ_ok (n : TNode) (hn : n.ok) (h10 : n.kind ≠ 10) : Pure En 124 [.agg (n.enc.map .p)] (.p (.bool n.typB)) := by
 have hk1 := hn.names
 have hk2 := hn.kids
 refine pure_walk [(0, .agg (n.enc.map .p))] Tryz.func124 rfl rfl rfl fun g hwo hwt => ?_
 show Wc En _ (Tryz.f124.body.getD .skip) [] (Sx 115 _ _ _ _ _ _)
 unfold Tryz.f124
 simp only [Option.getD_some]
 refine wc_seq (wc_reg fun K hK => ?_)
 refine x_box rfl rfl rfl rfl rfl ?_
 refine x_assign rfl rfl rfl ?_
 refine x_nil (hK _ ?_); clear hK K
 refine go_seq (wc_seq (wc_seq ?_))
 refine xc_regCut [(1, _)] [(1, _)] [(9, .p (.bool (n.op && !(n.kind == 9))))] (by repeat first | exact trivial | refine .intro rfl ?_) (by repeat first | exact trivial | refine .intro rfl ?_) (fun K hK => ?_) ?_
 ·refine x_fa rfl rfl rfl fld150_5 rfl ?_
  refine x_ldL rfl rfl rfl isag4 rfl rfl ?_
  refine x_moveS rfl rfl rfl (fun hg5 => ?_) (fun hg5 => ?_)
  ·refine x_fa rfl rfl rfl fld150_0 rfl ?_
   refine x_ldL rfl rfl rfl isag3 rfl rfl ?_
   refine x_bin rfl rfl rfl rfl rfl ?_
   refine x_pickT rfl rfl rfl rfl ?_
   exact x_nil (hK _ _ _ _ (by repeat (first | exact trivial | refine And.intro rfl ?_ | refine And.intro (by rw [hg5]; rfl) ?_)) (by repeat first | exact trivial | refine .intro rfl ?_))
  ·refine x_skip rfl rfl ?_
   refine x_skip rfl rfl ?_
   refine x_skip rfl rfl ?_
   refine x_pickF rfl rfl rfl rfl ?_
   exact x_nil (hK _ _ _ _ (by repeat (first | exact trivial | refine And.intro rfl ?_ | refine And.intro (by rw [hg5]; rfl) ?_)) (by repeat first | exact trivial | refine .intro rfl ?_))
 intro b rb
 refine go_seq ?_
 refine xc_cond _ rfl (fun hc0 => ?_) (fun hc0 => ?_)
 ·refine wc_seq (wc_reg fun K hK => ?_)
  refine x_assign rfl rfl rfl ?_
  refine x_nil (hK _ ?_); clear hK K
  refine go_seq (wc_ret (go_seq_ret ?_))
  exact x_end1 (Or.inr rfl) rfl rfl rfl rfl rfl rfl (by simp_all [TNode.typB, emptyB] <;> omega)
 ·refine wc_skip (go_seq (wc_seq (wc_seq (wc_reg fun K hK => ?_))))
  refine x_fa rfl rfl rfl fld150_0 rfl ?_
  refine x_ldL rfl rfl rfl isag3 rfl rfl ?_
  refine x_nil (hK _ ?_); clear hK K
  refine go_seq (wc_block (wc_seq (wc_reg fun K hK => ?_)))
  refine x_bin rfl rfl rfl rfl rfl ?_
  refine x_assign rfl rfl rfl ?_
  refine x_nil (hK _ ?_); clear hK K
  refine go_seq ?_
  refine xc_cond _ rfl (fun hc1 => ?_) (fun hc1 => ?_)
  ·refine wc_seq (wc_reg fun K hK => ?_)
   refine x_fa rfl rfl rfl fld150_2 rfl ?_
   refine x_ldL rfl rfl rfl isag9 rfl rfl ?_
   refine x_bin rfl rfl rfl rfl rfl ?_
   refine x_moveS rfl rfl rfl (fun hg17 => ?_) (fun hg17 => ?_)
   ·refine x_fa rfl rfl rfl fld150_3 rfl ?_
    refine x_ldL rfl rfl rfl isag35 rfl rfl ?_
    refine x_len rfl rfl rfl (by first | assumption | exact Rd.enc) und35 ?_
    refine x_bin rfl rfl rfl rfl rfl ?_
    refine x_pickT rfl rfl rfl rfl ?_
    refine x_moveS rfl rfl rfl (fun hg23 => ?_) (fun hg23 => ?_)
    ·refine x_fa rfl rfl rfl fld150_4 rfl ?_
     refine x_ldL rfl rfl rfl isag27 rfl rfl ?_
     refine x_len rfl rfl rfl (by first | assumption | exact Rd.enc) und27 ?_
     refine x_bin rfl rfl rfl rfl rfl ?_
     refine x_pickT rfl rfl rfl rfl ?_
     refine x_assign rfl rfl rfl ?_
     refine x_nil (hK _ ?_); clear hK K
     refine go_seq (wc_ret (go_blk_ret (go_seq_ret ?_)))
     exact x_end1 (Or.inr rfl) rfl rfl rfl rfl rfl rfl (by simp_all [TNode.typB, emptyB] <;> omega)
    ·refine x_skip rfl rfl ?_
     refine x_skip rfl rfl ?_
     refine x_skip rfl rfl ?_
     refine x_skip rfl rfl ?_
     refine x_pickF rfl rfl rfl rfl ?_
     refine x_assign rfl rfl rfl ?_
     refine x_nil (hK _ ?_); clear hK K
     refine go_seq (wc_ret (go_blk_ret (go_seq_ret ?_)))
     exact x_end1 (Or.inr rfl) rfl rfl rfl rfl rfl rfl (by simp_all [TNode.typB, emptyB] <;> omega)
   ·refine x_skip rfl rfl ?_
    refine x_skip rfl rfl ?_
    refine x_skip rfl rfl ?_
    refine x_skip rfl rfl ?_
    refine x_pickF rfl rfl rfl rfl ?_
    refine x_move rfl rfl rfl ?_
    refine x_skip rfl rfl ?_
    refine x_skip rfl rfl ?_
    refine x_skip rfl rfl ?_
    refine x_skip rfl rfl ?_
    refine x_pickF rfl rfl rfl rfl ?_
    refine x_assign rfl rfl rfl ?_
    refine x_nil (hK _ ?_); clear hK K
    refine go_seq (wc_ret (go_blk_ret (go_seq_ret ?_)))
    exact x_end1 (Or.inr rfl) rfl rfl rfl rfl rfl rfl (by simp_all [TNode.typB, emptyB] <;> omega)
  ·refine wc_seq (wc_reg fun K hK => ?_)
   refine x_bin rfl rfl rfl rfl rfl ?_
   refine x_assign rfl rfl rfl ?_
   refine x_nil (hK _ ?_); clear hK K
   refine go_seq ?_
   refine xc_cond _ rfl (fun hc2 => ?_) (fun hc2 => ?_)
   ·refine wc_seq (wc_reg fun K hK => ?_)
    refine x_fa rfl rfl rfl fld150_2 rfl ?_
    refine x_ldL rfl rfl rfl isag9 rfl rfl ?_
    refine x_bin rfl rfl rfl rfl rfl ?_
    refine x_moveS rfl rfl rfl (fun hg34 => ?_) (fun hg34 => ?_)
    ·refine x_fa rfl rfl rfl fld150_3 rfl ?_
     refine x_ldL rfl rfl rfl isag35 rfl rfl ?_
     refine x_len rfl rfl rfl (by first | assumption | exact Rd.enc) und35 ?_
     refine x_fa rfl rfl rfl fld150_4 rfl ?_
     refine x_ldL rfl rfl rfl isag27 rfl rfl ?_
     refine x_len rfl rfl rfl (by first | assumption | exact Rd.enc) und27 ?_
     refine x_bin rfl rfl rfl rfl rfl ?_
     refine x_pickT rfl rfl rfl rfl ?_
     refine x_moveS rfl rfl rfl (fun hg43 => ?_) (fun hg43 => ?_)
     ·refine x_fa rfl rfl rfl fld150_3 rfl ?_
      refine x_ldL rfl rfl rfl isag35 rfl rfl ?_
      refine x_call rfl rfl rfl (by repeat (first | exact ho_nil | refine ho_cons (by first | rfl | exact rd_ho (by assumption)) ?_)) okf147 (once_ok Rd.enc hk1 _) ?_
      refine x_pickT rfl rfl rfl rfl ?_
      refine x_moveS rfl rfl rfl (fun hg48 => ?_) (fun hg48 => ?_)
      ·refine x_fa rfl rfl rfl fld150_3 rfl ?_
       refine x_ldL rfl rfl rfl isag35 rfl rfl ?_
       refine x_call rfl rfl rfl (by repeat (first | exact ho_nil | refine ho_cons (by first | rfl | exact rd_ho (by assumption)) ?_)) okf148 (all_ok Rd.enc hk1 okf145 (fun s hs => isName_ok s (hn.each s hs)) _) ?_
       refine x_pickT rfl rfl rfl rfl ?_
       refine x_assign rfl rfl rfl ?_
       refine x_nil (hK _ ?_); clear hK K
       refine go_seq (wc_ret (go_blk_ret (go_seq_ret ?_)))
       exact x_end1 (Or.inr rfl) rfl rfl rfl rfl rfl rfl (by simp_all [TNode.typB, emptyB] <;> omega)
      ·refine x_skip rfl rfl ?_
       refine x_skip rfl rfl ?_
       refine x_skip rfl rfl ?_
       refine x_pickF rfl rfl rfl rfl ?_
       refine x_assign rfl rfl rfl ?_
       refine x_nil (hK _ ?_); clear hK K
       refine go_seq (wc_ret (go_blk_ret (go_seq_ret ?_)))
       exact x_end1 (Or.inr rfl) rfl rfl rfl rfl rfl rfl (by simp_all [TNode.typB, emptyB] <;> omega)
     ·refine x_skip rfl rfl ?_
      refine x_skip rfl rfl ?_
      refine x_skip rfl rfl ?_
      refine x_pickF rfl rfl rfl rfl ?_
      refine x_move rfl rfl rfl ?_
      refine x_skip rfl rfl ?_
      refine x_skip rfl rfl ?_
      refine x_skip rfl rfl ?_
      refine x_pickF rfl rfl rfl rfl ?_
      refine x_assign rfl rfl rfl ?_
      refine x_nil (hK _ ?_); clear hK K
      refine go_seq (wc_ret (go_blk_ret (go_seq_ret ?_)))
      exact x_end1 (Or.inr rfl) rfl rfl rfl rfl rfl rfl (by simp_all [TNode.typB, emptyB] <;> omega)
    ·refine x_skip rfl rfl ?_
     refine x_skip rfl rfl ?_
     refine x_skip rfl rfl ?_
     refine x_skip rfl rfl ?_
     refine x_skip rfl rfl ?_
     refine x_skip rfl rfl ?_
     refine x_skip rfl rfl ?_
     refine x_pickF rfl rfl rfl rfl ?_
     refine x_move rfl rfl rfl ?_
     refine x_skip rfl rfl ?_
     refine x_skip rfl rfl ?_
     refine x_skip rfl rfl ?_
     refine x_pickF rfl rfl rfl rfl ?_
     refine x_move rfl rfl rfl ?_
     refine x_skip rfl rfl ?_
     refine x_skip rfl rfl ?_
     refine x_skip rfl rfl ?_
     refine x_pickF rfl rfl rfl rfl ?_
     refine x_assign rfl rfl rfl ?_
     refine x_nil (hK _ ?_); clear hK K
     refine go_seq (wc_ret (go_blk_ret (go_seq_ret ?_)))
     exact x_end1 (Or.inr rfl) rfl rfl rfl rfl rfl rfl (by simp_all [TNode.typB, emptyB] <;> omega)
   ·refine wc_seq (wc_reg fun K hK => ?_)
    refine x_bin rfl rfl rfl rfl rfl ?_
    refine x_assign rfl rfl rfl ?_
    refine x_nil (hK _ ?_); clear hK K
    refine go_seq ?_
    refine xc_cond _ rfl (fun hc3 => ?_) (fun hc3 => ?_)
    ·refine wc_seq (wc_reg fun K hK => ?_)
     refine x_fa rfl rfl rfl fld150_2 rfl ?_
     refine x_ldL rfl rfl rfl isag9 rfl rfl ?_
     refine x_bin rfl rfl rfl rfl rfl ?_
     refine x_moveS rfl rfl rfl (fun hg58 => ?_) (fun hg58 => ?_)
     ·refine x_fa rfl rfl rfl fld150_3 rfl ?_
      refine x_ldL rfl rfl rfl isag35 rfl rfl ?_
      refine x_len rfl rfl rfl (by first | assumption | exact Rd.enc) und35 ?_
      refine x_fa rfl rfl rfl fld150_4 rfl ?_
      refine x_ldL rfl rfl rfl isag27 rfl rfl ?_
      refine x_len rfl rfl rfl (by first | assumption | exact Rd.enc) und27 ?_
      refine x_bin rfl rfl rfl rfl rfl ?_
      refine x_pickT rfl rfl rfl rfl ?_
      refine x_moveS rfl rfl rfl (fun hg67 => ?_) (fun hg67 => ?_)
      ·refine x_fa rfl rfl rfl fld150_3 rfl ?_
       refine x_ldL rfl rfl rfl isag35 rfl rfl ?_
       refine x_call rfl rfl rfl (by repeat (first | exact ho_nil | refine ho_cons (by first | rfl | exact rd_ho (by assumption)) ?_)) okf147 (once_ok Rd.enc hk1 _) ?_
       refine x_pickT rfl rfl rfl rfl ?_
       refine x_moveS rfl rfl rfl (fun hg72 => ?_) (fun hg72 => ?_)
       ·refine x_fa rfl rfl rfl fld150_3 rfl ?_
        refine x_ldL rfl rfl rfl isag35 rfl rfl ?_
        refine x_call rfl rfl rfl (by repeat (first | exact ho_nil | refine ho_cons (by first | rfl | exact rd_ho (by assumption)) ?_)) okf148 (all_ok Rd.enc hk1 okf149 (fun s hs => tag_ok s (hn.each s hs)) _) ?_
        refine x_pickT rfl rfl rfl rfl ?_
        refine x_assign rfl rfl rfl ?_
        refine x_nil (hK _ ?_); clear hK K
        refine go_seq (wc_ret (go_blk_ret (go_seq_ret ?_)))
        exact x_end1 (Or.inr rfl) rfl rfl rfl rfl rfl rfl (by simp_all [TNode.typB, emptyB] <;> omega)
       ·refine x_skip rfl rfl ?_
        refine x_skip rfl rfl ?_
        refine x_skip rfl rfl ?_
        refine x_pickF rfl rfl rfl rfl ?_
        refine x_assign rfl rfl rfl ?_
        refine x_nil (hK _ ?_); clear hK K
        refine go_seq (wc_ret (go_blk_ret (go_seq_ret ?_)))
        exact x_end1 (Or.inr rfl) rfl rfl rfl rfl rfl rfl (by simp_all [TNode.typB, emptyB] <;> omega)
      ·refine x_skip rfl rfl ?_
       refine x_skip rfl rfl ?_
       refine x_skip rfl rfl ?_
       refine x_pickF rfl rfl rfl rfl ?_
       refine x_move rfl rfl rfl ?_
       refine x_skip rfl rfl ?_
       refine x_skip rfl rfl ?_
       refine x_skip rfl rfl ?_
       refine x_pickF rfl rfl rfl rfl ?_
       refine x_assign rfl rfl rfl ?_
       refine x_nil (hK _ ?_); clear hK K
       refine go_seq (wc_ret (go_blk_ret (go_seq_ret ?_)))
       exact x_end1 (Or.inr rfl) rfl rfl rfl rfl rfl rfl (by simp_all [TNode.typB, emptyB] <;> omega)
     ·refine x_skip rfl rfl ?_
      refine x_skip rfl rfl ?_
      refine x_skip rfl rfl ?_
      refine x_skip rfl rfl ?_
      refine x_skip rfl rfl ?_
      refine x_skip rfl rfl ?_
      refine x_skip rfl rfl ?_
      refine x_pickF rfl rfl rfl rfl ?_
      refine x_move rfl rfl rfl ?_
      refine x_skip rfl rfl ?_
      refine x_skip rfl rfl ?_
      refine x_skip rfl rfl ?_
      refine x_pickF rfl rfl rfl rfl ?_
      refine x_move rfl rfl rfl ?_
      refine x_skip rfl rfl ?_
      refine x_skip rfl rfl ?_
      refine x_skip rfl rfl ?_
      refine x_pickF rfl rfl rfl rfl ?_
      refine x_assign rfl rfl rfl ?_
      refine x_nil (hK _ ?_); clear hK K
      refine go_seq (wc_ret (go_blk_ret (go_seq_ret ?_)))
      exact x_end1 (Or.inr rfl) rfl rfl rfl rfl rfl rfl (by simp_all [TNode.typB, emptyB] <;> omega)
    ·refine wc_seq (wc_reg fun K hK => ?_)
     refine x_bin rfl rfl rfl rfl rfl ?_
     refine x_assign rfl rfl rfl ?_
     refine x_nil (hK _ ?_); clear hK K
     refine go_seq ?_
     refine xc_cond _ rfl (fun hc4 => ?_) (fun hc4 => ?_)
     ·exact absurd (by simpa using hc4) h10
     ·refine wc_skip (go_blk (go_seq (wc_seq (wc_reg fun K hK => ?_))))
      refine x_fa rfl rfl rfl fld150_0 rfl ?_
      refine x_ldL rfl rfl rfl isag3 rfl rfl ?_
      refine x_bin rfl rfl rfl rfl rfl ?_
      refine x_moveS rfl rfl rfl (fun hg95 => ?_) (fun hg95 => ?_)
      ·refine x_fa rfl rfl rfl fld150_0 rfl ?_
       refine x_ldL rfl rfl rfl isag3 rfl rfl ?_
       refine x_bin rfl rfl rfl rfl rfl ?_
       refine x_pickT rfl rfl rfl rfl ?_
       refine x_moveS rfl rfl rfl (fun hg100 => ?_) (fun hg100 => ?_)
       ·refine x_fa rfl rfl rfl fld150_2 rfl ?_
        refine x_ldL rfl rfl rfl isag9 rfl rfl ?_
        refine x_bin rfl rfl rfl rfl rfl ?_
        refine x_pickT rfl rfl rfl rfl ?_
        refine x_moveS rfl rfl rfl (fun hg105 => ?_) (fun hg105 => ?_)
        ·refine x_fa rfl rfl rfl fld150_3 rfl ?_
         refine x_ldL rfl rfl rfl isag35 rfl rfl ?_
         refine x_len rfl rfl rfl (by first | assumption | exact Rd.enc) und35 ?_
         refine x_fa rfl rfl rfl fld150_4 rfl ?_
         refine x_ldL rfl rfl rfl isag27 rfl rfl ?_
         refine x_len rfl rfl rfl (by first | assumption | exact Rd.enc) und27 ?_
         refine x_add rfl rfl rfl rfl (by omega) (by omega) ?_
         refine x_bin rfl rfl rfl rfl rfl ?_
         refine x_pickT rfl rfl rfl rfl ?_
         refine x_assign rfl rfl rfl ?_
         refine x_nil (hK _ ?_); clear hK K
         refine go_seq (wc_ret ?_)
         exact x_end1 (Or.inr rfl) rfl rfl rfl rfl rfl rfl (by simp_all [TNode.typB, emptyB] <;> omega)
        ·refine x_skip rfl rfl ?_
         refine x_skip rfl rfl ?_
         refine x_skip rfl rfl ?_
         refine x_skip rfl rfl ?_
         refine x_skip rfl rfl ?_
         refine x_skip rfl rfl ?_
         refine x_skip rfl rfl ?_
         refine x_skip rfl rfl ?_
         refine x_pickF rfl rfl rfl rfl ?_
         refine x_assign rfl rfl rfl ?_
         refine x_nil (hK _ ?_); clear hK K
         refine go_seq (wc_ret ?_)
         exact x_end1 (Or.inr rfl) rfl rfl rfl rfl rfl rfl (by simp_all [TNode.typB, emptyB] <;> omega)
       ·refine x_skip rfl rfl ?_
        refine x_skip rfl rfl ?_
        refine x_skip rfl rfl ?_
        refine x_pickF rfl rfl rfl rfl ?_
        refine x_move rfl rfl rfl ?_
        refine x_skip rfl rfl ?_
        refine x_skip rfl rfl ?_
        refine x_skip rfl rfl ?_
        refine x_skip rfl rfl ?_
        refine x_skip rfl rfl ?_
        refine x_skip rfl rfl ?_
        refine x_skip rfl rfl ?_
        refine x_skip rfl rfl ?_
        refine x_pickF rfl rfl rfl rfl ?_
        refine x_assign rfl rfl rfl ?_
        refine x_nil (hK _ ?_); clear hK K
        refine go_seq (wc_ret ?_)
        exact x_end1 (Or.inr rfl) rfl rfl rfl rfl rfl rfl (by simp_all [TNode.typB, emptyB] <;> omega)
      ·refine x_skip rfl rfl ?_
       refine x_skip rfl rfl ?_
       refine x_skip rfl rfl ?_
       refine x_pickF rfl rfl rfl rfl ?_
       refine x_move rfl rfl rfl ?_
       refine x_skip rfl rfl ?_
       refine x_skip rfl rfl ?_
       refine x_skip rfl rfl ?_
       refine x_pickF rfl rfl rfl rfl ?_
       refine x_move rfl rfl rfl ?_
       refine x_skip rfl rfl ?_
       refine x_skip rfl rfl ?_
       refine x_skip rfl rfl ?_
       refine x_skip rfl rfl ?_
       refine x_skip rfl rfl ?_
       refine x_skip rfl rfl ?_
       refine x_skip rfl rfl ?_
       refine x_skip rfl rfl ?_
       refine x_pickF rfl rfl rfl rfl ?_
       refine x_assign rfl rfl rfl ?_
       refine x_nil (hK _ ?_); clear hK K
       refine go_seq (wc_ret ?_)
       exact x_end1 (Or.inr rfl) rfl rfl rfl rfl rfl rfl (by simp_all [TNode.typB, emptyB] <;> omega)
end Go.Vm
set_option linter.unusedVariables false
namespace Go.Vm
open Go Go.Proofs
attribute [local irreducible] wpL
set_option maxRecDepth 20000 in
theorem note_ok {g0 : G} {id : Nat} {us : List Int} {v : V} {a : List Int} {below : Int} (hv : Rd eInt v a) (ha : a.length < 2 ^ 60) (hid : g0.objs[id]? = some (.cells (us.map eI))) (hwo : g0.wo ≤ id) (hwt : g0.wt ≤ g0.toks.length) (hb : below ≤ us.length) : CallsAt En g0 123 [.arr id 0 us.length us.length 1, v, .p (.int .i64 below)] (.p (.bool (noteP us below a).1)) (g0.upd id (.cells ((noteP us below a).2.map eI))) := by
 have hidl := (List.getElem?_eq_some_iff.1 hid).1
 refine keep_walk [(0, .arr id 0 us.length us.length 1), (1, v), (2, .p (.int .i64 below))] Tryz.func123 rfl rfl rfl fun g hg => ?_
 show Wc En _ (Tryz.f123.body.getD .skip) [] (Sx 29 _ _ _ _ _ _)
 unfold Tryz.f123
 simp only [Option.getD_some]
 refine wc_seq (wc_reg fun K hK => ?_)
 refine x_assign rfl rfl rfl ?_
 refine x_nil (hK _ (go_seq (wc_seq (wc_seq (wc_reg fun K hK => ?_)))))
 refine x_move rfl rfl rfl ?_
 refine x_len rfl rfl rfl (by first | assumption | exact Rd.enc) und27 ?_
 refine x_move rfl rfl rfl ?_
 refine x_nil (hK _ (go_seq (wc_block ?_)))
 refine xc_loopG [(0, _), (2, _), (9, _), (10, _)] [] (fun x : Nat × List Int × Nat => [(11, .p (.int .i64 x.1))]) (fun x : Nat × List Int × Nat => []) (fun x : Nat × List Int × Nat => g0.at' id (.cells (x.2.1.map eI)) x.2.2) (fun x : Nat × List Int × Nat => x.1 ≤ a.length ∧ x.2.1.length = us.length ∧ g0.wo ≤ x.2.2 ∧ noteP us below a = noteP x.2.1 below (a.drop x.1)) (fun x : Nat × List Int × Nat => a.length - x.1) (0, us, g0.objs.length) (by repeat first | exact trivial | refine .intro rfl ?_) (by repeat first | exact trivial | refine .intro rfl ?_) (by rw [hg]; exact at_start hid) ⟨Nat.zero_le _, rfl, by show g0.wo ≤ g0.objs.length; omega, by simp⟩ ?_
 rintro ⟨j, us1, w⟩ R hR1 hR2 ⟨hj, hl, hw, hn⟩ b rb
 dsimp only at hj hl hw hn ⊢
 refine wc_seq (wc_reg fun K hK => ?_)
 refine x_bin rfl rfl rfl rfl rfl ?_
 refine x_nil (hK _ (go_seq (wc_seq ?_)))
 refine xc_cond _ rfl (fun hc0 => ?_) (fun hc0 => ?_)
 ·have hlt : j < a.length := by simp at hc0; omega
  have e1 : a[j]? = some a[j] := by simp
  refine wc_skip (go_seq (wc_seq (wc_block (wc_seq (wc_reg fun K hK => ?_)))))
  refine x_ia rfl rfl rfl (by first | assumption | exact Rd.enc) rfl und27 sz3 rfl (by assumption) rfl ?_
  refine x_ldR rfl rfl rfl isag3 rfl ?_
  refine x_assign rfl rfl rfl ?_
  refine x_nil (hK _ (go_seq (wc_seq (wc_seq (wc_reg fun K hK => ?_)))))
  refine x_move rfl rfl rfl ?_
  refine x_bin rfl rfl rfl rfl rfl ?_
  refine x_moveS rfl rfl rfl (fun hg17 => ?_) (fun hg17 => ?_)
  ·refine x_skip rfl rfl ?_
   refine x_skip rfl rfl ?_
   refine x_skip rfl rfl ?_
   refine x_pickT rfl rfl rfl rfl ?_
   refine x_nil (hK _ (go_seq ?_))
   refine xc_cond true rfl (fun _ => ?_) (fun h => by cases h)
   refine wc_seq (wc_reg fun K hK => ?_)
   refine x_assign rfl rfl rfl ?_
   refine x_nil (hK _ (go_seq (wc_ret (go_seq_ret (go_blk_ret (go_seq_ret ?_))))))
   refine hR2 _ _ (by simp) ?_
   refine go_blk_ret (go_seq_ret ?_)
   exact x_endK (Or.inr rfl) rfl rfl rfl (at_end hw hwt (by rw [noteP_bad hlt hn (by simp at hg17; omega)])) (by rw [noteP_bad hlt hn (by simp at hg17; omega)])
  ·refine x_move rfl rfl rfl ?_
   refine x_move rfl rfl rfl ?_
   refine x_bin rfl rfl rfl rfl rfl ?_
   refine x_pickF rfl rfl rfl rfl ?_
   refine x_nil (hK _ (go_seq ?_))
   refine xc_cond _ rfl (fun hc1 => ?_) (fun hc1 => ?_)
   ·refine wc_seq (wc_reg fun K hK => ?_)
    refine x_assign rfl rfl rfl ?_
    refine x_nil (hK _ (go_seq (wc_ret (go_seq_ret (go_blk_ret (go_seq_ret ?_))))))
    refine hR2 _ _ (by simp) ?_
    refine go_blk_ret (go_seq_ret ?_)
    exact x_endK (Or.inr rfl) rfl rfl rfl (at_end hw hwt (by rw [noteP_bad hlt hn (by simp at hc1; omega)])) (by rw [noteP_bad hlt hn (by simp at hc1; omega)])
   ·have h0 : 0 ≤ a[j] := by simp at hg17; omega
    have h1 : a[j] < us1.length := by simp at hc1; omega
    refine wc_skip (go_seq (wc_reg fun K hK => ?_))
    refine x_move rfl rfl rfl ?_
    refine x_move rfl rfl rfl ?_
    refine x_iaA rfl rfl rfl rfl und178 sz3 rfl h0 (by omega) ?_
    refine x_ldO rfl rfl rfl isag3 (at_obj hid) (getI h0 h1) ?_
    refine x_bin rfl rfl rfl rfl rfl ?_
    refine x_iaA rfl rfl rfl rfl und178 sz3 rfl h0 (by omega) ?_
    refine x_stO rfl rfl rfl sz3 rfl rfl (at_obj hid) (by simp; omega) ?_
    refine x_nil (hK _ (go_blk (go_seq (wc_reg fun K hK => ?_))))
    refine x_inc rfl rfl rfl rfl (by omega) ?_
    refine x_move rfl rfl rfl ?_
    refine x_nil (hK _ ?_); clear hK K
    exact hR1 (j + 1, upI us1 a[j], min w id) _ _ _ _ _ ⟨hlt, by simp [upI, hl], by show g0.wo ≤ min w id; omega, noteP_up hlt hn h0 (by simp at hc1; omega)⟩ (by show a.length - (j + 1) < a.length - j; omega) (by repeat first | exact trivial | refine .intro rfl ?_) (by repeat first | exact trivial | refine .intro rfl ?_) (by rw [at_set]; exact congrArg (fun z => g0.at' id (.cells z) (min w id)) (upI_map h0 h1).symm)
 ·refine wc_exit ?_
  refine go_seq_exit ?_
  refine hR2 _ _ (by simp) ?_
  refine go_blk_exit (go_seq (wc_seq (wc_reg fun K hK => ?_)))
  refine x_assign rfl rfl rfl ?_
  refine x_nil (hK _ (go_seq (wc_ret ?_)))
  have hge : a.length ≤ j := by simp at hc0; omega
  exact x_endK (Or.inr rfl) rfl rfl rfl (at_end hw hwt (by rw [noteP_end hge hn])) (by rw [noteP_end hge hn])
end Go.Vm
set_option linter.unusedVariables false
namespace Go.Vm
open Go Go.Proofs
attribute [local irreducible] wpL
set_option maxRecDepth 20000 in
theorem odd_ok (n : Int) : Pure En 126 [.p (.int .i64 n)] (.p (.bool (n != 1))) := by
 refine pure_walk [(0, .p (.int .i64 n))] Tryz.func126 rfl rfl rfl fun g hwo hwt => ?_
 show Wc En _ (Tryz.f126.body.getD .skip) [] (Sx 5 _ _ _ _ _ _)
 unfold Tryz.f126
 simp only [Option.getD_some]
 refine wc_seq (wc_reg fun K hK => ?_)
 refine x_assign rfl rfl rfl ?_
 refine x_nil (hK _ (go_seq (wc_seq (wc_reg fun K hK => ?_))))
 refine x_move rfl rfl rfl ?_
 refine x_bin rfl rfl rfl rfl rfl ?_
 refine x_assign rfl rfl rfl ?_
 refine x_nil (hK _ (go_seq (wc_ret ?_)))
 exact x_end1 (Or.inr rfl) rfl rfl rfl rfl rfl rfl rfl
set_option maxRecDepth 20000 in
theorem indexU_ok {g0 : G} {id : Nat} {us : List Int} (hid : g0.objs[id]? = some (.cells (us.map eI))) (ha : us.length < 2 ^ 60) : CallsAt En g0 151 [.arr id 0 us.length us.length 1, .fn (.func 126) []] (.p (.int .i64 (idxP (· != 1) us))) g0 := by
 refine at_walk [(0, .arr id 0 us.length us.length 1), (1, .fn (.func 126) [])] Tryz.func151 rfl rfl rfl fun g hgo hgt hwo hwt => ?_
 show Wc En _ (Tryz.f151.body.getD .skip) [] (Sx 19 _ _ _ _ _ _)
 unfold Tryz.f151
 simp only [Option.getD_some]
 refine wc_seq (wc_reg fun K hK => ?_)
 refine x_assign rfl rfl rfl ?_
 refine x_nil (hK _ (go_seq (wc_seq (wc_seq (wc_reg fun K hK => ?_)))))
 refine x_move rfl rfl rfl ?_
 refine x_lenA rfl rfl rfl und178 ?_
 refine x_move rfl rfl rfl ?_
 refine x_nil (hK _ (go_seq (wc_block ?_)))
 refine xc_loop [(0, _), (1, _), (7, _)] [] (fun j : Nat => [(8, .p (.int .i64 j))]) (fun j : Nat => j ≤ us.length ∧ ∀ i, i < j → ∃ c, us[i]? = some c ∧ (!(c != 1)) = true) (fun j : Nat => us.length - j) 0 (by repeat first | exact trivial | refine .intro rfl ?_) (by repeat first | exact trivial | refine .intro rfl ?_) ⟨Nat.zero_le _, fun i hi => by omega⟩ ?_
 rintro j R hR1 hR2 ⟨hj, hr⟩ b rb
 refine wc_seq (wc_reg fun K hK => ?_)
 refine x_bin rfl rfl rfl rfl rfl ?_
 refine x_nil (hK _ (go_seq (wc_seq ?_)))
 refine xc_cond _ rfl (fun hc0 => ?_) (fun hc0 => ?_)
 ·have hlt : j < us.length := by simp at hc0; omega
  have e1 : us[j]? = some us[j] := by simp
  refine wc_skip (go_seq (wc_seq (wc_block (wc_seq (wc_reg fun K hK => ?_)))))
  refine x_move rfl rfl rfl ?_
  refine x_assign rfl rfl rfl ?_
  refine x_nil (hK _ (go_seq (wc_seq (wc_reg fun K hK => ?_))))
  refine x_move rfl rfl rfl ?_
  refine x_move rfl rfl rfl ?_
  refine x_move rfl rfl rfl ?_
  refine x_iaA rfl rfl rfl rfl und178 sz3 rfl (by omega) (by omega) ?_
  refine x_ldO rfl rfl rfl isag3 (by rw [hgo]; exact hid) (getN hlt) ?_
  refine x_callD rfl rfl rfl rfl (by repeat (first | exact ho_nil | refine ho_cons (by first | rfl | exact rd_ho (by assumption)) ?_)) okf126 (odd_ok _ _) ?_
  refine x_nil (hK _ (go_seq ?_))
  refine xc_cond _ rfl (fun hc1 => ?_) (fun hc1 => ?_)
  ·refine wc_seq (wc_reg fun K hK => ?_)
   refine x_move rfl rfl rfl ?_
   refine x_assign rfl rfl rfl ?_
   refine x_nil (hK _ (go_seq (wc_ret (go_blk_ret (go_seq_ret ?_)))))
   refine hR2 _ _ (by simp) ?_
   refine go_blk_ret (go_seq_ret ?_)
   exact x_end1 (Or.inr rfl) rfl rfl rfl rfl rfl rfl (ieq (idxP_at hr e1 hc1).symm)
  ·refine wc_skip (go_blk (go_seq (wc_reg fun K hK => ?_)))
   refine x_inc rfl rfl rfl rfl (by omega) ?_
   refine x_move rfl rfl rfl ?_
   refine x_nil (hK _ ?_); clear hK K
   exact hR1 (j + 1) _ _ _ _ ⟨hlt, leadP_up hr e1 (by rw [hc1]; rfl)⟩ (by omega) (by repeat first | exact trivial | refine .intro rfl ?_) (by repeat first | exact trivial | refine .intro rfl ?_)
 ·refine wc_exit ?_
  refine go_seq_exit ?_
  refine hR2 _ _ (by simp) ?_
  refine go_blk_exit (go_seq (wc_seq (wc_reg fun K hK => ?_)))
  refine x_assign rfl rfl rfl ?_
  refine x_nil (hK _ (go_seq (wc_ret ?_)))
  exact x_end1 (Or.inr rfl) rfl rfl rfl rfl rfl rfl (ieq (idxP_no (fun i hi => hr i (by simp at hc0; omega))).symm)
set_option maxRecDepth 20000 in
theorem containsU_ok {g0 : G} {id : Nat} {us : List Int} (hid : g0.objs[id]? = some (.cells (us.map eI))) (ha : us.length < 2 ^ 60) : CallsAt En g0 127 [.arr id 0 us.length us.length 1, .fn (.func 126) []] (.p (.bool (us.any (· != 1)))) g0 := by
 refine at_walk [(0, .arr id 0 us.length us.length 1), (1, .fn (.func 126) [])] Tryz.func127 rfl rfl rfl fun g hgo hgt hwo hwt => ?_
 show Wc En _ (Tryz.f127.body.getD .skip) [] (Sx 9 _ _ _ _ _ _)
 unfold Tryz.f127
 simp only [Option.getD_some]
 refine wc_seq (wc_reg fun K hK => ?_)
 refine x_assign rfl rfl rfl ?_
 refine x_nil (hK _ (go_seq (wc_seq (wc_reg fun K hK => ?_))))
 refine x_move rfl rfl rfl ?_
 refine x_move rfl rfl rfl ?_
 refine x_call rfl rfl rfl (by repeat (first | exact ho_nil | refine ho_cons (by first | rfl | exact rd_ho (by assumption)) ?_)) okf151 (indexU_ok (by rw [hgo]; exact hid) ha) ?_
 refine x_bin rfl rfl rfl rfl rfl ?_
 refine x_assign rfl rfl rfl ?_
 refine x_nil (hK _ (go_seq (wc_ret ?_)))
 exact x_end1 (Or.inr rfl) rfl rfl rfl rfl rfl rfl (veq (by rw [← idxP_ge]))
end Go.Vm
set_option linter.unusedVariables false
namespace Go.Vm
open Go
structure Node where
 kind : Int
 pos : Int
 name : ByteArray
 int : Int
 bits : Int
 names : Sl ByteArray
 kids : Sl Int
 types : Sl Int
def Node.enc (n : Node) : List PV := [.int .i64 n.kind, .int .i64 n.pos, .str n.name, .int .i64 n.int, .int .u64 n.bits, n.names.enc eStr, n.kids.enc eInt, n.types.enc eInt]
structure ANode where
 name : ByteArray
 type : Int
 pos : Int
def ANode.enc (n : ANode) : List PV := [.str n.name, .int .i64 n.type, .int .i64 n.pos]
structure Tree where
 nodes : Sl Node
 types : Sl TNode
 aliases : Sl ANode
def Tree.enc (t : Tree) : List PV := [t.nodes.enc Node.enc, t.types.enc TNode.enc, t.aliases.enc ANode.enc]
structure Tree.ok (t : Tree) : Prop where
 nodes : t.nodes.l.length < 2 ^ 60
 types : t.types.l.length < 2 ^ 60
 aliases : t.aliases.l.length < 2 ^ 60
 kids : ∀ n, n ∈ t.nodes.l → n.kids.l.length < 2 ^ 60 ∧ n.types.l.length < 2 ^ 60
 tkids : ∀ n, n ∈ t.types.l → n.kids.l.length < 2 ^ 60
section
variable (tb : Node → Bool) (yb : TNode → Bool) (ab : ANode → Bool)
def nodesP (nT : Int) : Nat → List Int → List Int → List Node → Option (List Int × List Int)
 | _, us, vs, [] => some (us, vs)
 | k, us, vs, n :: ns => if tb n = true ∧ (noteP us k n.kids.l).1 = true ∧ (noteP vs nT n.types.l).1 = true then nodesP nT (k + 1) (noteP us k n.kids.l).2 (noteP vs nT n.types.l).2 ns else none
def typesP : Nat → List Int → List TNode → Option (List Int)
 | _, vs, [] => some vs
 | k, vs, n :: ns => if yb n = true ∧ (noteP vs k n.kids.l).1 = true then typesP (k + 1) (noteP vs k n.kids.l).2 ns else none
def aliasP (nT : Int) : List Int → List ANode → Option (List Int)
 | vs, [] => some vs
 | vs, n :: ns => if ab n = true ∧ (noteP vs nT [n.type]).1 = true then aliasP nT (noteP vs nT [n.type]).2 ns else none
variable (t : Tree)
def c3 (us : List Int) : Option (List Int) → Int
 | none => 14
 | some vs => if (upI us ((t.nodes.l.length : Int) - 1)).any (· != 1) || vs.any (· != 1) then 14 else 0
def c2 (us : List Int) : Option (List Int) → Int
 | none => 14
 | some vs => c3 t us (aliasP ab t.types.l.length vs t.aliases.l)
def c1 : Option (List Int × List Int) → Int
 | none => 14
 | some (us, vs) => c2 ab t us (typesP yb 0 vs t.types.l)
def checkP : Int := if t.nodes.l.length = 0 ∨ 65536 < t.nodes.l.length ∨ 65536 < t.types.l.length then 14 else
 c1 yb ab t (nodesP tb t.types.l.length 0 (List.replicate t.nodes.l.length 0) (List.replicate t.types.l.length 0) t.nodes.l)
end
def twoO (sw : Bool) (us vs : List Int) : List Ob := if sw then [.cells (vs.map eI), .cells (us.map eI)] else [.cells (us.map eI), .cells (vs.map eI)]
def ti (sw : Bool) : Nat := if sw then 1 else 0
def vi (sw : Bool) : Nat := if sw then 0 else 1
theorem two_t {g : G} {sw : Bool} {us vs : List Int} : (g.ext (twoO sw us vs) []).objs[g.objs.length + ti sw]? = some (.cells (us.map eI)) := by
 rw [ext_obj]; cases sw <;> rfl
theorem two_v {g : G} {sw : Bool} {us vs : List Int} : (g.ext (twoO sw us vs) []).objs[g.objs.length + vi sw]? = some (.cells (vs.map eI)) := by
 rw [ext_obj]; cases sw <;> rfl
theorem two_ut {g : G} {sw : Bool} {us us' vs : List Int} : (g.ext (twoO sw us vs) []).upd (g.objs.length + ti sw) (.cells (us'.map eI)) = g.ext (twoO sw us' vs) [] := by
 rw [ext_upd]; cases sw <;> rfl
theorem two_uv {g : G} {sw : Bool} {us vs vs' : List Int} : (g.ext (twoO sw us vs) []).upd (g.objs.length + vi sw) (.cells (vs'.map eI)) = g.ext (twoO sw us vs') [] := by
 rw [ext_upd]; cases sw <;> rfl
theorem two_st {g : G} {sw : Bool} {us us' vs : List Int} (h : g.wo = g.objs.length) : (g.ext (twoO sw us vs) []).setObj (g.objs.length + ti sw) (.cells (us'.map eI)) = g.ext (twoO sw us' vs) [] := by
 rw [ext_set h]; cases sw <;> rfl
theorem two_start {g : G} {n m : Nat} : g.ext (twoO false (List.replicate n 0) (List.replicate m 0)) [] = g.ext ([] ++ [.cells (List.replicate n [V.p (.int .i64 0)]).flatten] ++ [.cells (List.replicate m [V.p (.int .i64 0)]).flatten]) [] := by
 simp [twoO, eI, List.flatten_replicate_singleton]
theorem two_start' {g : G} {n m : Nat} : g.ext (twoO true (List.replicate n 0) (List.replicate m 0)) [] = g.ext ([] ++ [.cells (List.replicate m [V.p (.int .i64 0)]).flatten] ++ [.cells (List.replicate n [V.p (.int .i64 0)]).flatten]) [] := by
 simp [twoO, eI, List.flatten_replicate_singleton]
theorem nodesP_at {tb : Node → Bool} {nT : Int} {k : Nat} {us vs : List Int} {l : List Node} {n : Node} (hk : k < l.length) (e : l[k]? = some n) :
  nodesP tb nT k us vs (l.drop k) = if tb n = true ∧ (noteP us k n.kids.l).1 = true ∧ (noteP vs nT n.types.l).1 = true then nodesP tb nT (k + 1) (noteP us k n.kids.l).2 (noteP vs nT n.types.l).2 (l.drop (k + 1)) else none := by
 rw [List.getElem?_eq_getElem hk] at e
 cases e
 rw [List.drop_eq_getElem_cons hk]; rfl
theorem typesP_at {yb : TNode → Bool} {k : Nat} {vs : List Int} {l : List TNode} {n : TNode} (hk : k < l.length) (e : l[k]? = some n) :
  typesP yb k vs (l.drop k) = if yb n = true ∧ (noteP vs k n.kids.l).1 = true then typesP yb (k + 1) (noteP vs k n.kids.l).2 (l.drop (k + 1)) else none := by
 rw [List.getElem?_eq_getElem hk] at e
 cases e
 rw [List.drop_eq_getElem_cons hk]; rfl
theorem aliasP_at {ab : ANode → Bool} {nT : Int} {k : Nat} {vs : List Int} {l : List ANode} {n : ANode} (hk : k < l.length) (e : l[k]? = some n) :
  aliasP ab nT vs (l.drop k) = if ab n = true ∧ (noteP vs nT [n.type]).1 = true then aliasP ab nT (noteP vs nT [n.type]).2 (l.drop (k + 1)) else none := by
 rw [List.getElem?_eq_getElem hk] at e
 cases e
 rw [List.drop_eq_getElem_cons hk]; rfl
end Go.Vm
