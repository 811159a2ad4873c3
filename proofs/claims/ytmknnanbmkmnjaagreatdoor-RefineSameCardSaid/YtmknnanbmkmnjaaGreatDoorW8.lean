/- Part 8 of the texts that the claim leans on: a judgement on the program over plain values, its soundness, and contracts of functions. -/
import Derived.Test.YtmknnanbmkmnjaaGreatDoorW7
set_option linter.unusedVariables false
set_option linter.unusedSimpArgs false
set_option linter.unusedVariables false
namespace Go.Vm
open Go
def CallsAt (E : Env) (g : G) (f : FuncId) (args : List V) (r : V) (g2 : G) : Prop := Ev E (.call f args g fun v g' => v = r ∧ g' = g2)
def Pure (E : Env) (f : FuncId) (args : List V) (r : V) : Prop := ∀ g, CallsAt E g f args r g
inductive Ko where
 | seq (b : Code)
 | blk (id : Nat)
def Go' (E : Env) (Q : X → St → Prop) : List Ko → X → St → Prop
 | [], e, s => Q e s
 | .seq b :: ks, e, s => match e with
  | .normal => Ev E (.code b s (Go' E Q ks))
  | e => Go' E Q ks e s
 | .blk id :: ks, e, s => match e with
  | .exit id' => if id' = id then Go' E Q ks .normal s else Go' E Q ks (.exit id') s
  | e => Go' E Q ks e s
def Wc (E : Env) (Q : X → St → Prop) (c : Code) (ks : List Ko) (s : St) : Prop := Ev E (.code c s (Go' E Q ks))
section
variable {E : Env} {Q : X → St → Prop} {ks : List Ko} {s : St}
theorem wc_seq {a b : Code} (h : Wc E Q a (.seq b :: ks) s) : Wc E Q (.seq a b) ks s := by
 refine .seq _ h (fun s' hs => hs) (fun e s' he hs => ?_)
 cases e with
 | normal => exact absurd rfl he
 | _ => exact hs
theorem wc_skip (h : Go' E Q ks .normal s) : Wc E Q .skip ks s := .skip h
theorem wc_ret (h : Go' E Q ks .ret s) : Wc E Q .ret ks s := .ret h
theorem wc_exit {id : Nat} (h : Go' E Q ks (.exit id) s) : Wc E Q (.exit id) ks s := .exit h
theorem wc_cond {c : Operand} {a b : Code} (t : Bool) (hc : s.ev E c = some (.p (.bool t))) (h1 : t = true → Wc E Q a ks s) (h2 : t = false → Wc E Q b ks s) : Wc E Q (.cond c a b) ks s := by
 refine .cond t hc ?_
 cases t
 ·exact h2 rfl
 ·exact h1 rfl
theorem wc_block {id : Nat} {b : Code} (h : Wc E Q b (.blk id :: ks) s) : Wc E Q (.block id b) ks s := by
 refine .block _ h (fun s' hs => hs) (fun id' s' hs => ?_) (fun s' hs => hs)
 simp only [Go'] at hs
 split
 ·rename_i hid; rw [if_pos hid] at hs; exact hs
 ·rename_i hid; rw [if_neg hid] at hs; exact hs
theorem go_seq {b : Code} (h : Wc E Q b ks s) : Go' E Q (.seq b :: ks) .normal s := h
theorem go_blk {id : Nat} (h : Go' E Q ks .normal s) : Go' E Q (.blk id :: ks) .normal s := h
theorem go_seq_ret {b : Code} (h : Go' E Q ks .ret s) : Go' E Q (.seq b :: ks) .ret s := h
theorem go_blk_ret {id : Nat} (h : Go' E Q ks .ret s) : Go' E Q (.blk id :: ks) .ret s := h
theorem go_seq_exit {b : Code} {i : Nat} (h : Go' E Q ks (.exit i) s) : Go' E Q (.seq b :: ks) (.exit i) s := h
theorem go_blk_exit {id : Nat} (h : Go' E Q ks .normal s) : Go' E Q (.blk id :: ks) (.exit id) s := by simp only [Go', if_true]; exact h
theorem wc_loop {b : Code} (I : Nat → St → Prop) (k : Nat) (h0 : I k s)
  (h : ∀ (k : Nat) (s : St) (R : X → St → Prop), (∀ k' s', k' < k → I k' s' → R .normal s') → (∀ e s', e ≠ .normal → Go' E Q ks e s' → R e s') → I k s → Wc E R b [] s) : Wc E Q (.loop b) ks s := by
 induction k using Nat.strongRecOn generalizing s with
 | _ k ih =>
  refine .loop (fun e s' => (∃ k', k' < k ∧ e = .normal ∧ I k' s') ∨ (e ≠ .normal ∧ Go' E Q ks e s')) (h k s _ ?_ ?_ h0) ?_ ?_
  ·exact fun k' s' hk hi => Or.inl ⟨k', hk, rfl, hi⟩
  ·exact fun e s' he hg => Or.inr ⟨he, hg⟩
  ·intro s' hs
   rcases hs with ⟨k', hk, _, hi⟩ | ⟨he, _⟩
   ·exact ih k' hk hi
   ·exact absurd rfl he
  ·intro e s' he hs
   rcases hs with ⟨_, _, he', _⟩ | ⟨_, hg⟩
   ·exact absurd he' he
   ·exact hg
end
section
variable (E : Env) (qt : Bool)
def wpO (ops : Array Oper) : List Nat → St → (St → Prop) → Prop
 | [], s, K => K s
 | i :: l, s, K => match ops[i]? with
  | none => False
  | some o => match wants ops s o with
   | none => False
   | some false => (match s.put o.dst .undef with
    | none => False
    | some s' => wpO ops l s' K)
   | some true => match callOf E s o with
    | some (f, args) => ∃ r g2, CallsAt E s.g f args r g2 ∧ (qt = true → g2 = s.g) ∧ (match St.put { s with g := g2 } o.dst r with
     | none => False
     | some s' => wpO ops l s' K)
    | none => (match stepV E s o with
     | none => False
     | some (v, s1) => match s1.put o.dst v with
      | none => False
      | some s' => wpO ops l s' K)
end
section
variable {E : Env}
theorem wpO_ok {qt : Bool} {ops : Array Oper} {Q : St → Prop} : ∀ (l : List Nat) (s : St) (K : St → Prop), (∀ s', K s' → Q s') → wpO E qt ops l s K → Ev E (.ops ops l s Q) := by
 intro l
 induction l with
 | nil => intro s K hK h; exact .nil (hK _ h)
 | cons i l ih =>
  intro s K hK h
  unfold wpO at h
  split at h
  ·cases h
  ·rename_i o ho
   split at h
   ·cases h
   ·rename_i hw
    split at h
    ·cases h
    ·rename_i s' hp; exact .skipOp ho hw hp (ih s' K hK h)
   ·rename_i hw
    split at h
    ·rename_i f args hc
     obtain ⟨r, g2, hr, _, h⟩ := h
     split at h
     ·cases h
     ·rename_i s' hp
      refine .callOp _ (fun _ _ => s') ho hw hc hr (fun v g hq => ?_) (fun v g hq => ih s' K hK h)
      obtain ⟨rfl, rfl⟩ := hq
      exact hp
    ·split at h
     ·cases h
     ·rename_i v s1 hs
      split at h
      ·cases h
      ·rename_i s' hp; exact .step ho hw hs hp (ih s' K hK h)
theorem wc_region {Q : X → St → Prop} {ks : List Ko} {s : St} {id : Nat} {ops : Array Oper} (h : ∀ K : St → Prop, (∀ s', Go' E Q ks .normal s' → K s') → wpO E false ops (List.range ops.size) s K) : Wc E Q (.region id ops false) ks s :=
 .region (wpO_ok _ _ _ (fun _ h => h) (h _ fun _ h => h))
def ordOk (cl : Nat → Bool) (esc : Nat → Bool) (ops : Array Oper) (tab : List Nat) : Nat → List Nat → Bool
 | mask, [] => match readyM mask 0 ops.toList with
  | [] => true
  | _ => false
 | mask, i :: l => match firstSafe false cl esc ops tab mask (readyM mask 0 ops.toList) with
  | some (j, []) => Nat.beq i j && ordOk cl esc ops tab (mask ||| 2 ^ i) l
  | _ => false
theorem wpO_evM {cl : Nat → Bool} {esc : Nat → Bool} {ops : Array Oper} {tab : List Nat} {Q : St → Prop} : ∀ (l : List Nat) (mask n : Nat) (s : St) (K : St → Prop), l.length ≤ n → (∀ s', K s' → Q s') → ordOk cl esc ops tab mask l = true →
  wpO E true ops l s K → EvM E cl esc ops tab Q n mask s := by
 intro l
 induction l with
 | nil =>
  intro mask n s K _ hK ho h
  unfold ordOk at ho
  split at ho
  ·rename_i hr; exact .done hr (hK _ h)
  ·cases ho
 | cons i l ih =>
  intro mask n s K hn hK ho h
  unfold ordOk at ho
  split at ho
  ·rename_i j hf
   simp only [Bool.and_eq_true] at ho
   have hij := Nat.eq_of_beq_eq_true ho.1
   subst hij
   obtain ⟨m, rfl⟩ : ∃ m, n = m + 1 := ⟨n - 1, by simp only [List.length_cons] at hn; omega⟩
   have hn' : l.length ≤ m := by simp only [List.length_cons] at hn; omega
   unfold wpO at h
   split at h
   ·cases h
   ·rename_i o hoo
    split at h
    ·cases h
    ·rename_i hw
     split at h
     ·cases h
     ·rename_i s' hp; exact .one false hf hoo rfl (.skip hoo hw hp) (ih _ m s' K hn' hK ho.2 h)
    ·rename_i hw
     split at h
     ·rename_i f args hc
      obtain ⟨r, g2, hr, hg2, h⟩ := h
      split at h
      ·cases h
      ·rename_i s' hp
       exact .one false hf hoo rfl (.call (v := r) (g := g2) hoo hw hc hr (fun _ => hg2 rfl) hp) (ih _ m s' K hn' hK ho.2 h)
     ·split at h
      ·cases h
      ·rename_i v s1 hs
       split at h
       ·cases h
       ·rename_i s' hp; exact .one false hf hoo rfl (.step hoo hw hs hp) (ih _ m s' K hn' hK ho.2 h)
  ·cases ho
theorem wc_drawn {Q : X → St → Prop} {ks : List Ko} {s : St} {id : Nat} {ops : Array Oper} (l : List Nat) (esc : Nat → Bool) (hm : E.P.follows .mixedOrders = true)
  (ho : (tabOk ops (aheads ops) && Nat.ble l.length ops.size && ordOk (fun _ => true) esc ops (aheads ops) 0 l) = true) (he : s.esc = esc)
  (h : ∀ K : St → Prop, (∀ s', Go' E Q ks .normal s' → K s') → wpO E true ops l s K) : Wc E Q (.region id ops true) ks s := by
 simp only [Bool.and_eq_true] at ho
 subst he
 exact EvM.sound hm ho.1.1 (wpO_evM l 0 ops.size s _ (Nat.le_of_ble_eq_true ho.1.2) (fun _ h => h) ho.2 (h _ fun _ h => h))
theorem pure_intro {f : FuncId} {fn : Func} {body : Code} {args : List V} {r : V} (hf : E.P.funcs[f]? = some fn) (hb : fn.body = some body) (ha : args.length ≤ fn.ntmps)
  (h : ∀ g, g.wo = g.objs.length → g.wt = g.toks.length → Wc E (fun e s' => (e = .normal ∨ e = .ret) ∧ ∃ vs ws, resOf E s' fn.results.toList = some vs ∧ sealL s'.g vs = some ws ∧ s'.g.wo = g.wo ∧ s'.g.wt = g.wt ∧ pack ws = r) body []
   { nt := fn.ntmps, tm := fun t => args.getD t .undef, rg := fun _ => none, esc := E.esc f, g := g }) : Pure E f args r := by
 intro g
 refine .fnClean _ hf hb ha (h { g with wo := g.objs.length, wt := g.toks.length } rfl rfl) fun e s' hq => ?_
 obtain ⟨h1, vs, ws, h2, h3, h4, h5, h6⟩ := hq
 exact ⟨h1, vs, ws, h2, h3, h4, h5, h6, rfl⟩
end
end Go.Vm
