/- Part 9 of the texts that the claim leans on: a judgement on the program over plain values, its soundness, and contracts of functions. -/
import Derived.Test.YtmknnanbmkmnjaaGreatDoorV8
import Derived.Test.YtmknnanbmkmnjaaGreatDoorProg
import Derived.KernelRfl
set_option linter.unusedVariables false
namespace Go.Vm
open Go
section
variable (E : Env) (qt : Bool)
def opW (s : St) (o : Oper) (k : V → St → Prop) : Prop :=
  match callOf E s o with
  | some (f, args) => ∃ r g2, CallsAt E s.g f args r g2 ∧ (qt = true → g2 = s.g) ∧ k r { s with g := g2 }
  | none => match stepV E s o with
    | none => False
    | some (v, s1) => k v s1
def putW (dst : Option Tmp) (v : V) (s : St) (k : St → Prop) : Prop :=
  match s.put dst v with
  | none => False
  | some s' => k s'
def wpL (ops : Array Oper) : List Oper → St → (St → Prop) → Prop
  | [], s, K => K s
  | o :: l, s, K => match wants ops s o with
    | none => False
    | some false => putW o.dst .undef s fun s' => wpL ops l s' K
    | some true => opW E qt s o fun v s1 => putW o.dst v s1 fun s' => wpL ops l s' K
end
section
variable {E : Env} {qt : Bool}
theorem wpL_wpO {ops : Array Oper} {K : St → Prop} : ∀ (l : List Nat) (s : St), (∀ i, i ∈ l → i < ops.size) → wpL E qt ops (l.filterMap (ops[·]?)) s K → wpO E qt ops l s K := by
  intro l
  induction l with
  | nil => intro s _ h; exact h
  | cons i l ih =>
    intro s hl h
    have hi := hl i (by simp)
    have ho : ops[i]? = some ops[i] := by simp [hi]
    have hl' : ∀ j, j ∈ l → j < ops.size := fun j hj => hl j (List.mem_cons_of_mem _ hj)
    simp only [List.filterMap_cons, ho] at h
    unfold wpL at h
    unfold wpO
    rw [ho]
    simp only
    split at h
    · cases h
    · rename_i hw
      rw [hw]
      simp only
      unfold putW at h
      split at h
      · cases h
      · rename_i s' hp; rw [hp]; exact ih s' hl' h
    · rename_i hw
      rw [hw]
      simp only
      unfold opW at h
      split at h
      · rename_i f args hc
        rw [hc]
        simp only
        obtain ⟨r, g2, hr, hg2, h⟩ := h
        refine ⟨r, g2, hr, hg2, ?_⟩
        unfold putW at h
        split at h
        · cases h
        · rename_i s' hp; rw [hp]; exact ih s' hl' h
      · rename_i hc
        rw [hc]
        simp only
        split at h
        · cases h
        · rename_i v s1 hs
          rw [hs]
          simp only
          unfold putW at h
          split at h
          · cases h
          · rename_i s' hp; rw [hp]; exact ih s' hl' h
theorem filterMap_range (ops : Array Oper) : (List.range ops.size).filterMap (ops[·]?) = ops.toList := by
  apply List.ext_getElem?
  intro i
  have : ∀ (l : List Oper), (List.range l.length).filterMap (l[·]?) = l := by
    intro l
    induction l with
    | nil => rfl
    | cons x l ih =>
      rw [List.length_cons, List.range_succ_eq_map, List.filterMap_cons]
      simp only [List.getElem?_cons_zero, List.filterMap_map]
      congr 1
  have h2 := this ops.toList
  simp only [Array.length_toList, Array.getElem?_toList] at h2
  rw [h2]
theorem wc_reg {Q : X → St → Prop} {ks : List Ko} {s : St} {id : Nat} {ops : Array Oper} (h : ∀ K : St → Prop, (∀ s', Go' E Q ks .normal s' → K s') → wpL E false ops ops.toList s K) : Wc E Q (.region id ops false) ks s :=
  wc_region fun K hK => wpL_wpO _ _ (fun i hi => List.mem_range.1 hi) (by rw [filterMap_range]; exact h K hK)
theorem wc_drw {Q : X → St → Prop} {ks : List Ko} {s : St} {id : Nat} {ops : Array Oper} (l : List Nat) (esc : Nat → Bool) (hm : E.P.follows .mixedOrders = true)
    (ho : (tabOk ops (aheads ops) && Nat.ble l.length ops.size && ordOk (fun _ => true) esc ops (aheads ops) 0 l && l.all (fun i => Nat.blt i ops.size)) = true) (he : s.esc = esc)
    (h : ∀ K : St → Prop, (∀ s', Go' E Q ks .normal s' → K s') → wpL E true ops (l.filterMap (ops[·]?)) s K) : Wc E Q (.region id ops true) ks s := by
  rw [Bool.and_eq_true] at ho
  exact wc_drawn l esc hm ho.1 he fun K hK => wpL_wpO _ _ (fun i hi => Nat.le_of_ble_eq_true (List.all_eq_true.1 ho.2 i hi)) (h K hK)
variable {nt : Nat} {tm : Nat → V} {rg : Nat → Option (Nat × List V)} {esc : Nat → Bool} {g : G} {s : St}
variable {dst : Option Tmp} {ty : TypeId} {pos : String} {after : Array Edge} {k : V → St → Prop}
theorem wpL_nil {ops : Array Oper} {K : St → Prop} : wpL E qt ops [] s K = K s := rfl
theorem wpL_cons {ops : Array Oper} {op : Op} {l : List Oper} {K : St → Prop} : wpL E qt ops (⟨dst, op, ty, pos, after, none⟩ :: l) s K = opW E qt s ⟨dst, op, ty, pos, after, none⟩ fun v s1 => putW dst v s1 fun s' => wpL E qt ops l s' K := rfl
theorem wpL_guard {ops : Array Oper} {op : Op} {j : Nat} {w : Bool} {l : List Oper} {K : St → Prop} : wpL E qt ops (⟨dst, op, ty, pos, after, some (j, w)⟩ :: l) s K =
    (match wants ops s ⟨dst, op, ty, pos, after, some (j, w)⟩ with
    | none => False
    | some false => putW dst .undef s fun s' => wpL E qt ops l s' K
    | some true => opW E qt s ⟨dst, op, ty, pos, after, some (j, w)⟩ fun v s1 => putW dst v s1 fun s' => wpL E qt ops l s' K) := rfl
theorem wants_some {ops : Array Oper} {op : Op} {j : Nat} {w : Bool} {d : Nat} (hd : (ops[j]?).bind (·.dst) = some d) : wants ops s ⟨dst, op, ty, pos, after, some (j, w)⟩ =
    if d < s.nt then (match s.tm d with
        | .p (.bool b) => some (b == w)
        | .undef => some false
        | _ => none) else none := by
  unfold wants; simp only [hd]; rfl
theorem putW_none {v : V} {K : St → Prop} : putW none v s K = K s := rfl
theorem putW_some {d : Nat} {v : V} {K : St → Prop} : putW (some d) v (St.mk nt tm rg esc g) K = (d < nt ∧ K (St.mk nt (upd tm d v) rg esc g)) := by
  unfold putW St.put
  by_cases h : d < nt
  · simp [h]
  · simp [h]
theorem ev_tmp {t : Nat} : St.ev E (St.mk nt tm rg esc g) (.tmp t) = some (tm t) := rfl
theorem ev_const {v : Value} : St.ev E s (.const v) = cst v := rfl
theorem ev_func {f : FuncId} : St.ev E s (.func f) = some (.fn (.func f) []) := rfl
theorem upd_at {α : Type} {f : Nat → α} {t x : Nat} {v : α} : upd f t v x = if x = t then v else f x := rfl
def someW (o : Option V) (k : V → Prop) : Prop :=
  match o with
  | some v => k v
  | none => False
theorem someW_some {v : V} {k : V → Prop} : someW (some v) k = k v := rfl
variable {gd : Option (Nat × Bool)}
theorem opW_step {op : Op} (hc : callOf E s ⟨dst, op, ty, pos, after, gd⟩ = none) : opW E qt s ⟨dst, op, ty, pos, after, gd⟩ k = (match stepV E s ⟨dst, op, ty, pos, after, gd⟩ with
    | none => False
    | some (v, s1) => k v s1) := by
  unfold opW; rw [hc]
theorem opW_move {x : Operand} : opW E qt s ⟨dst, .move x, ty, pos, after, gd⟩ k = someW (s.ev E x) fun v => k v s := by
  rw [opW_step rfl]; simp only [stepV]; cases s.ev E x <;> rfl
theorem opW_assign {x : Operand} : opW E qt s ⟨dst, .assign x, ty, pos, after, gd⟩ k = someW (s.ev E x) fun v => k v s := by
  rw [opW_step rfl]; simp only [stepV]; cases s.ev E x <;> rfl
theorem opW_load {t : TypeId} {x : Operand} : opW E qt s ⟨dst, .load t x, ty, pos, after, gd⟩ k = someW (s.ev E x) fun a => someW (s.loadV E t a) fun v => k v s := by
  rw [opW_step rfl]; simp only [stepV]
  cases s.ev E x with
  | none => rfl
  | some a => simp only [someW]; cases s.loadV E t a <;> rfl
theorem opW_bin {op : BinOp} {t u : TypeId} {x y : Operand} : opW E qt s ⟨dst, .binOp op t x y u, ty, pos, after, gd⟩ k = someW (s.ev E x) fun a => someW (s.ev E y) fun b => someW ((bin E op t a b).map .p) fun v => k v s := by
  rw [opW_step rfl]; simp only [stepV]
  cases s.ev E x with
  | none => rfl
  | some a =>
    cases s.ev E y with
    | none => rfl
    | some b => simp only [someW]; cases bin E op t a b <;> rfl
theorem opW_un {op : UnOp} {t : TypeId} {x : Operand} : opW E qt s ⟨dst, .unOp op t x, ty, pos, after, gd⟩ k = someW (s.ev E x) fun a => someW ((un op a).map .p) fun v => k v s := by
  rw [opW_step rfl]; simp only [stepV]
  cases s.ev E x with
  | none => rfl
  | some a => simp only [someW]; cases un op a <;> rfl
theorem opW_indexAddr {t : TypeId} {x y : Operand} : opW E qt s ⟨dst, .indexAddr t x y, ty, pos, after, gd⟩ k = (match stepV E s ⟨dst, .indexAddr t x y, ty, pos, after, gd⟩ with
    | none => False
    | some (v, s1) => k v s1) := by
  rw [opW_step rfl]
theorem opW_fieldAddr {t : TypeId} {x : Operand} {f : Nat} : opW E qt s ⟨dst, .fieldAddr t x f, ty, pos, after, gd⟩ k = someW (s.ev E x) fun a => (match fieldOf E t f with
    | some (off, _, _) => someW (addTo a off) fun v => k v s
    | none => False) := by
  rw [opW_step rfl]; simp only [stepV]
  cases s.ev E x with
  | none => rfl
  | some a =>
    cases fieldOf E t f with
    | none => rfl
    | some p => obtain ⟨off, n, ag⟩ := p; simp only [someW]; cases addTo a off <;> rfl
theorem opW_len {x : Operand} {t : TypeId} : opW E qt s ⟨dst, .call { callee := .builtin .len, args := #[x], argTypes := #[t] }, ty, pos, after, gd⟩ k = someW (s.ev E x) fun a => (match E.P.underlying t with
    | some d => (match lenOf s d a with
      | some n => k (.p (.int .i64 n)) s
      | none => False)
    | none => False) := by
  rw [opW_step rfl]; simp only [stepV, evL]
  cases s.ev E x with
  | none => rfl
  | some a =>
    simp only [someW]
    have : (#[t] : Array TypeId)[0]? = some t := rfl
    rw [this]
    simp only
    cases E.P.underlying t with
    | none => rfl
    | some d => simp only; cases lenOf s d a <;> rfl
theorem opW_call {f : FuncId} {args : Array Operand} {ats : Array TypeId} : opW E qt s ⟨dst, .call { callee := .value (.func f), args := args, argTypes := ats }, ty, pos, after, gd⟩ k =
    (match evL E s args.toList with
    | some vs => (vs.flatMap cellsOf).all one = true ∧ okFn E f = true ∧ ∃ r g2, CallsAt E s.g f vs r g2 ∧ (qt = true → g2 = s.g) ∧ k r { s with g := g2 }
    | none => False) := by
  unfold opW callOf
  simp only [ev_func]
  cases evL E s args.toList with
  | none => rfl
  | some vs =>
    simp only
    by_cases h1 : (vs.flatMap cellsOf).all one = true
    · by_cases h2 : okFn E f = true
      · simp [h1, h2]
      · simp only [h1, h2, Bool.and_false, Bool.false_eq_true, if_false, false_and, and_false, eq_iff_iff, iff_false]
        simp [stepV]
    · simp only [h1, Bool.false_and, Bool.false_eq_true, if_false, false_and, eq_iff_iff, iff_false]
      simp [stepV]
end
end Go.Vm
set_option linter.unusedVariables false
namespace Go.Vm
open Go
def genOf (x : Option (Nat × List V)) : Nat :=
  match x with
  | some (g, _) => g + 1
  | none => 0
theorem wrap_id {n : Int} (h1 : -9223372036854775808 ≤ n) (h2 : n ≤ 9223372036854775807) : IntKind.wrap .i64 n = n := by
  have key : (if (true && decide (n % (18446744073709551616 : Int) ≥ (9223372036854775808 : Int))) = true then n % (18446744073709551616 : Int) - 18446744073709551616 else n % (18446744073709551616 : Int)) = n := by
    simp only [Bool.true_and, decide_eq_true_eq]
    split <;> omega
  exact key
section
variable {E : Env} {qt : Bool} {ops : Array Oper} {l : List Oper} {K : St → Prop}
variable {nt : Nat} {tm : Nat → V} {rg : Nat → Option (Nat × List V)} {esc : Nat → Bool} {g : G}
variable {d : Nat} {ty : TypeId} {pos : String} {after : Array Edge} {gd : Option (Nat × Bool)} {op : Op}
def Wants (ops : Array Oper) (nt : Nat) (tm : Nat → V) (gd : Option (Nat × Bool)) (w : Bool) : Prop :=
  ∀ (s : St) (dst : Option Tmp) (op : Op) (ty : TypeId) (pos : String) (after : Array Edge), s.nt = nt → s.tm = tm → wants ops s ⟨dst, op, ty, pos, after, gd⟩ = some w
theorem wants_of {s : St} {dst : Option Tmp} {w : Bool} (h : Wants ops s.nt s.tm gd w) : wants ops s ⟨dst, op, ty, pos, after, gd⟩ = some w := h s dst op ty pos after rfl rfl
theorem wnone : Wants ops nt tm none true := fun _ _ _ _ _ _ _ _ => rfl
theorem wpl_skip (h : Wants ops nt tm gd false) (hd : d < nt) (k : wpL E qt ops l (St.mk nt (upd tm d .undef) rg esc g) K) : wpL E qt ops (⟨some d, op, ty, pos, after, gd⟩ :: l) (St.mk nt tm rg esc g) K := by
  unfold wpL
  rw [wants_of (s := St.mk nt tm rg esc g) h]
  simp only [putW_some]
  exact ⟨hd, k⟩
theorem wpl_skip0 (h : Wants ops nt tm gd false) (k : wpL E qt ops l (St.mk nt tm rg esc g) K) : wpL E qt ops (⟨none, op, ty, pos, after, gd⟩ :: l) (St.mk nt tm rg esc g) K := by
  unfold wpL
  rw [wants_of (s := St.mk nt tm rg esc g) h]
  exact k
theorem wpl_op {s1 : St} {v : V} (h : Wants ops nt tm gd true) (hd : d < nt) (hc : callOf E (St.mk nt tm rg esc g) ⟨some d, op, ty, pos, after, gd⟩ = none)
    (hs : stepV E (St.mk nt tm rg esc g) ⟨some d, op, ty, pos, after, gd⟩ = some (v, s1)) (k : wpL E qt ops l (St.mk nt (upd tm d v) s1.rg esc s1.g) K) :
    wpL E qt ops (⟨some d, op, ty, pos, after, gd⟩ :: l) (St.mk nt tm rg esc g) K := by
  obtain ⟨h1, h2, h3⟩ := stepV_tm hs
  unfold wpL
  rw [wants_of (s := St.mk nt tm rg esc g) h]
  simp only
  unfold opW
  rw [hc]
  simp only
  rw [hs]
  simp only
  cases s1
  simp only at h1 h2 h3
  subst h1 h2 h3
  rw [putW_some]
  exact ⟨hd, k⟩
theorem wpl_op0 {s1 : St} {v : V} (h : Wants ops nt tm gd true) (hc : callOf E (St.mk nt tm rg esc g) ⟨none, op, ty, pos, after, gd⟩ = none)
    (hs : stepV E (St.mk nt tm rg esc g) ⟨none, op, ty, pos, after, gd⟩ = some (v, s1)) (k : wpL E qt ops l (St.mk nt tm s1.rg esc s1.g) K) :
    wpL E qt ops (⟨none, op, ty, pos, after, gd⟩ :: l) (St.mk nt tm rg esc g) K := by
  obtain ⟨h1, h2, h3⟩ := stepV_tm hs
  unfold wpL
  rw [wants_of (s := St.mk nt tm rg esc g) h]
  simp only
  unfold opW
  rw [hc]
  simp only
  rw [hs]
  simp only
  cases s1
  simp only at h1 h2 h3
  subst h1 h2 h3
  exact k
theorem wpl_move {x : Operand} {v : V} (h : Wants ops nt tm gd true) (hd : d < nt) (hx : St.ev E (St.mk nt tm rg esc g) x = some v) (k : wpL E qt ops l (St.mk nt (upd tm d v) rg esc g) K) :
    wpL E qt ops (⟨some d, .move x, ty, pos, after, gd⟩ :: l) (St.mk nt tm rg esc g) K := wpl_op (s1 := St.mk nt tm rg esc g) h hd rfl (by simp only [stepV, hx]; rfl) k
theorem wpl_assign {x : Operand} {v : V} (h : Wants ops nt tm gd true) (hd : d < nt) (hx : St.ev E (St.mk nt tm rg esc g) x = some v) (k : wpL E qt ops l (St.mk nt (upd tm d v) rg esc g) K) :
    wpL E qt ops (⟨some d, .assign x, ty, pos, after, gd⟩ :: l) (St.mk nt tm rg esc g) K := wpl_op (s1 := St.mk nt tm rg esc g) h hd rfl (by simp only [stepV, hx]; rfl) k
theorem wpl_pickT {c x y : Operand} {v : V} (h : Wants ops nt tm gd true) (hd : d < nt) (hc : St.ev E (St.mk nt tm rg esc g) c = some (.p (.bool true))) (hx : St.ev E (St.mk nt tm rg esc g) x = some v) (k : wpL E qt ops l (St.mk nt (upd tm d v) rg esc g) K) :
    wpL E qt ops (⟨some d, .pick c x y, ty, pos, after, gd⟩ :: l) (St.mk nt tm rg esc g) K := wpl_op (s1 := St.mk nt tm rg esc g) h hd rfl (by simp only [stepV, hc, if_true, hx]; rfl) k
theorem wpl_pickF {c x y : Operand} {v : V} (h : Wants ops nt tm gd true) (hd : d < nt) (hc : St.ev E (St.mk nt tm rg esc g) c = some (.p (.bool false))) (hx : St.ev E (St.mk nt tm rg esc g) y = some v) (k : wpL E qt ops l (St.mk nt (upd tm d v) rg esc g) K) :
    wpL E qt ops (⟨some d, .pick c x y, ty, pos, after, gd⟩ :: l) (St.mk nt tm rg esc g) K := wpl_op (s1 := St.mk nt tm rg esc g) h hd rfl (by simp only [stepV, hc, Bool.false_eq_true, if_false, hx]; rfl) k
theorem wpl_nilCheckP {x : Operand} {i o : Nat} (h : Wants ops nt tm gd true) (hd : d < nt) (hx : St.ev E (St.mk nt tm rg esc g) x = some (.ptr i o)) (k : wpL E qt ops l (St.mk nt (upd tm d (.ptr i o)) rg esc g) K) :
    wpL E qt ops (⟨some d, .nilCheck x, ty, pos, after, gd⟩ :: l) (St.mk nt tm rg esc g) K := wpl_op (s1 := St.mk nt tm rg esc g) h hd rfl (by simp only [stepV, hx]) k
theorem wpl_bin {o : BinOp} {t u : TypeId} {x y : Operand} {a b : V} {z : PV} (h : Wants ops nt tm gd true) (hd : d < nt) (hx : St.ev E (St.mk nt tm rg esc g) x = some a) (hy : St.ev E (St.mk nt tm rg esc g) y = some b) (hz : bin E o t a b = some z)
    (k : wpL E qt ops l (St.mk nt (upd tm d (.p z)) rg esc g) K) : wpL E qt ops (⟨some d, .binOp o t x y u, ty, pos, after, gd⟩ :: l) (St.mk nt tm rg esc g) K := wpl_op (s1 := St.mk nt tm rg esc g) h hd rfl (by simp only [stepV, hx, hy, hz]; rfl) k
theorem wpl_binS {o : BinOp} {t u : TypeId} {x y : Operand} {a b : V} {z : Bool} (h : Wants ops nt tm gd true) (hd : d < nt) (hx : St.ev E (St.mk nt tm rg esc g) x = some a) (hy : St.ev E (St.mk nt tm rg esc g) y = some b) (hz : bin E o t a b = some (.bool z))
    (k1 : z = true → wpL E qt ops l (St.mk nt (upd tm d (.p (.bool true))) rg esc g) K) (k2 : z = false → wpL E qt ops l (St.mk nt (upd tm d (.p (.bool false))) rg esc g) K) :
    wpL E qt ops (⟨some d, .binOp o t x y u, ty, pos, after, gd⟩ :: l) (St.mk nt tm rg esc g) K := by
  refine wpl_bin h hd hx hy hz ?_
  cases z
  · exact k2 rfl
  · exact k1 rfl
theorem wpl_moveS {x : Operand} {z : Bool} (h : Wants ops nt tm gd true) (hd : d < nt) (hx : St.ev E (St.mk nt tm rg esc g) x = some (.p (.bool z)))
    (k1 : z = true → wpL E qt ops l (St.mk nt (upd tm d (.p (.bool true))) rg esc g) K) (k2 : z = false → wpL E qt ops l (St.mk nt (upd tm d (.p (.bool false))) rg esc g) K) :
    wpL E qt ops (⟨some d, .move x, ty, pos, after, gd⟩ :: l) (St.mk nt tm rg esc g) K := by
  refine wpl_move h hd hx ?_
  cases z
  · exact k2 rfl
  · exact k1 rfl
theorem wpl_add {t u : TypeId} {x y : Operand} {a b : Int} (h : Wants ops nt tm gd true) (hd : d < nt) (hx : St.ev E (St.mk nt tm rg esc g) x = some (.p (.int .i64 a))) (hy : St.ev E (St.mk nt tm rg esc g) y = some (.p (.int .i64 b)))
    (h1 : -9223372036854775808 ≤ a + b) (h2 : a + b ≤ 9223372036854775807)
    (k : wpL E qt ops l (St.mk nt (upd tm d (.p (.int .i64 (a + b)))) rg esc g) K) : wpL E qt ops (⟨some d, .binOp .add t x y u, ty, pos, after, gd⟩ :: l) (St.mk nt tm rg esc g) K := by
  refine wpl_bin (z := .int .i64 (a + b)) h hd hx hy ?_ k
  simp only [bin, ibin, if_true]
  rw [wrap_id h1 h2]
theorem wpl_sub {t u : TypeId} {x y : Operand} {a b : Int} (h : Wants ops nt tm gd true) (hd : d < nt) (hx : St.ev E (St.mk nt tm rg esc g) x = some (.p (.int .i64 a))) (hy : St.ev E (St.mk nt tm rg esc g) y = some (.p (.int .i64 b)))
    (h1 : -9223372036854775808 ≤ a - b) (h2 : a - b ≤ 9223372036854775807)
    (k : wpL E qt ops l (St.mk nt (upd tm d (.p (.int .i64 (a - b)))) rg esc g) K) : wpL E qt ops (⟨some d, .binOp .sub t x y u, ty, pos, after, gd⟩ :: l) (St.mk nt tm rg esc g) K := by
  refine wpl_bin (z := .int .i64 (a - b)) h hd hx hy ?_ k
  simp only [bin, ibin, if_true]
  rw [wrap_id h1 h2]
theorem wpl_not {t : TypeId} {x : Operand} {b : Bool} (h : Wants ops nt tm gd true) (hd : d < nt) (hx : St.ev E (St.mk nt tm rg esc g) x = some (.p (.bool b))) (k : wpL E qt ops l (St.mk nt (upd tm d (.p (.bool (!b)))) rg esc g) K) :
    wpL E qt ops (⟨some d, .unOp .not t x, ty, pos, after, gd⟩ :: l) (St.mk nt tm rg esc g) K := wpl_op (s1 := St.mk nt tm rg esc g) h hd rfl (by simp only [stepV, hx, un]; rfl) k
theorem wpl_load {t : TypeId} {x : Operand} {a v : V} (h : Wants ops nt tm gd true) (hd : d < nt) (hx : St.ev E (St.mk nt tm rg esc g) x = some a) (hl : St.loadV E (St.mk nt tm rg esc g) t a = some v) (k : wpL E qt ops l (St.mk nt (upd tm d v) rg esc g) K) :
    wpL E qt ops (⟨some d, .load t x, ty, pos, after, gd⟩ :: l) (St.mk nt tm rg esc g) K := wpl_op (s1 := St.mk nt tm rg esc g) h hd rfl (by simp only [stepV, hx, hl]; rfl) k
theorem wpl_loadS {t : TypeId} {x : Operand} {a : V} {z : Bool} (h : Wants ops nt tm gd true) (hd : d < nt) (hx : St.ev E (St.mk nt tm rg esc g) x = some a) (hl : St.loadV E (St.mk nt tm rg esc g) t a = some (.p (.bool z)))
    (k1 : z = true → wpL E qt ops l (St.mk nt (upd tm d (.p (.bool true))) rg esc g) K) (k2 : z = false → wpL E qt ops l (St.mk nt (upd tm d (.p (.bool false))) rg esc g) K) :
    wpL E qt ops (⟨some d, .load t x, ty, pos, after, gd⟩ :: l) (St.mk nt tm rg esc g) K := by
  refine wpl_load h hd hx hl ?_
  cases z
  · exact k2 rfl
  · exact k1 rfl
theorem wpl_fieldAddr {t : TypeId} {x : Operand} {f off n : Nat} {ag : Bool} {a v : V} (h : Wants ops nt tm gd true) (hd : d < nt) (hx : St.ev E (St.mk nt tm rg esc g) x = some a) (hf : fieldOf E t f = some (off, n, ag)) (ha : addTo a off = some v)
    (k : wpL E qt ops l (St.mk nt (upd tm d v) rg esc g) K) : wpL E qt ops (⟨some d, .fieldAddr t x f, ty, pos, after, gd⟩ :: l) (St.mk nt tm rg esc g) K := wpl_op (s1 := St.mk nt tm rg esc g) h hd rfl (by simp only [stepV, hx, hf, ha]; rfl) k
theorem wpl_field {t : TypeId} {x : Operand} {f off n : Nat} {ag : Bool} {cs r : List V} {v : V} (h : Wants ops nt tm gd true) (hd : d < nt) (hx : St.ev E (St.mk nt tm rg esc g) x = some (.agg cs)) (hf : fieldOf E t f = some (off, n, ag)) (hr : take? cs off n = some r) (hv : mkv ag r = some v)
    (k : wpL E qt ops l (St.mk nt (upd tm d v) rg esc g) K) : wpL E qt ops (⟨some d, .field t x f, ty, pos, after, gd⟩ :: l) (St.mk nt tm rg esc g) K := wpl_op (s1 := St.mk nt tm rg esc g) h hd rfl (by simp only [stepV, hx, hf, hr, hv]; rfl) k
theorem wpl_len {x : Operand} {t : TypeId} {td : TypeDesc} {a : V} {n : Nat} (h : Wants ops nt tm gd true) (hd : d < nt) (hx : St.ev E (St.mk nt tm rg esc g) x = some a) (hu : E.P.underlying t = some td) (hn : lenOf (St.mk nt tm rg esc g) td a = some n)
    (k : wpL E qt ops l (St.mk nt (upd tm d (.p (.int .i64 n))) rg esc g) K) : wpL E qt ops (⟨some d, .call { callee := .builtin .len, args := #[x], argTypes := #[t] }, ty, pos, after, gd⟩ :: l) (St.mk nt tm rg esc g) K := by
  refine wpl_op (s1 := St.mk nt tm rg esc g) h hd rfl ?_ k
  have : (#[t] : Array TypeId)[0]? = some t := rfl
  simp only [stepV, evL, hx, this, hu, hn]; rfl
theorem wpl_box {t : TypeId} {x : Operand} {v : V} (h : Wants ops nt tm gd true) (hd : d < nt) (he : esc d = false) (hx : St.ev E (St.mk nt tm rg esc g) x = some v) (ho : (cellsOf v).all one = true)
    (k : wpL E qt ops l (St.mk nt (upd tm d (.loc d (genOf (rg d)) 0)) (upd rg d (some (genOf (rg d), cellsOf v))) esc g) K) :
    wpL E qt ops (⟨some d, .box t x, ty, pos, after, gd⟩ :: l) (St.mk nt tm rg esc g) K := by
  refine wpl_op (s1 := St.mk nt tm (upd rg d (some (genOf (rg d), cellsOf v))) esc g) h hd rfl ?_ k
  simp only [stepV, hx, St.newVar, ho, if_true, he, Bool.false_eq_true, if_false]; rfl
theorem wpl_alloc {t : TypeId} {cs : List V} (h : Wants ops nt tm gd true) (hd : d < nt) (he : esc d = false) (hz : zeroOf E t = some cs) (ho : cs.all one = true)
    (k : wpL E qt ops l (St.mk nt (upd tm d (.loc d (genOf (rg d)) 0)) (upd rg d (some (genOf (rg d), cs))) esc g) K) :
    wpL E qt ops (⟨some d, .alloc t, ty, pos, after, gd⟩ :: l) (St.mk nt tm rg esc g) K := by
  refine wpl_op (s1 := St.mk nt tm (upd rg d (some (genOf (rg d), cs))) esc g) h hd rfl ?_ k
  simp only [stepV, hz, St.newVar, ho, if_true, he, Bool.false_eq_true, if_false]; rfl
theorem wpl_storeL {t : TypeId} {x y : Operand} {i G off n : Nat} {v : V} {cs cs' : List V} (h : Wants ops nt tm gd true) (hx : St.ev E (St.mk nt tm rg esc g) x = some (.loc i G off)) (hy : St.ev E (St.mk nt tm rg esc g) y = some v) (hz : sz E t = some n) (hn : (cellsOf v).length = n)
    (ho : (cellsOf v).all one = true) (hr : rg i = some (G, cs)) (hp : put? cs off (cellsOf v) = some cs') (k : wpL E qt ops l (St.mk nt tm (upd rg i (some (G, cs'))) esc g) K) :
    wpL E qt ops (⟨none, .store t x y, ty, pos, after, gd⟩ :: l) (St.mk nt tm rg esc g) K := by
  refine wpl_op0 (v := .undef) (s1 := St.mk nt tm (upd rg i (some (G, cs'))) esc g) h rfl ?_ k
  simp only [stepV, hx, hy, hz, hn, if_true, St.storeCells, ho, hr, hp]; rfl
theorem wpl_callM {f : FuncId} {args : Array Operand} {ats : Array TypeId} {vs : List V} {r : V} {g2 : G} (h : Wants ops nt tm gd true) (hd : d < nt) (ha : evL E (St.mk nt tm rg esc g) args.toList = some vs) (ho : (vs.flatMap cellsOf).all one = true) (hf : okFn E f = true) (hp : CallsAt E g f vs r g2) (hq : qt = true → g2 = g)
    (k : wpL E qt ops l (St.mk nt (upd tm d r) rg esc g2) K) : wpL E qt ops (⟨some d, .call { callee := .value (.func f), args := args, argTypes := ats }, ty, pos, after, gd⟩ :: l) (St.mk nt tm rg esc g) K := by
  unfold wpL
  rw [wants_of (s := St.mk nt tm rg esc g) h]
  simp only
  rw [opW_call, ha]
  refine ⟨ho, hf, r, g2, hp, hq, ?_⟩
  rw [putW_some]
  exact ⟨hd, k⟩
theorem wpl_call {f : FuncId} {args : Array Operand} {ats : Array TypeId} {vs : List V} {r : V} (h : Wants ops nt tm gd true) (hd : d < nt) (ha : evL E (St.mk nt tm rg esc g) args.toList = some vs) (ho : (vs.flatMap cellsOf).all one = true) (hf : okFn E f = true) (hp : CallsAt E g f vs r g)
    (k : wpL E qt ops l (St.mk nt (upd tm d r) rg esc g) K) : wpL E qt ops (⟨some d, .call { callee := .value (.func f), args := args, argTypes := ats }, ty, pos, after, gd⟩ :: l) (St.mk nt tm rg esc g) K :=
  wpl_callM h hd ha ho hf hp (fun _ => rfl) k
theorem wpl_build {t : TypeId} {ps : Array (Nat × Operand)} {fs : Array Field} {z cs : List V} {vs : List (Nat × V)} {pl : List (Nat × Nat)} (h : Wants ops nt tm gd true) (hd : d < nt) (hu : E.P.underlying t = some (.struct fs)) (hz : zeroOf E t = some z) (hp : St.parts E (St.mk nt tm rg esc g) ps.toList = some vs)
    (hl : placesL E fs.toList = some pl) (hc : fillIn (pl[·]?) z vs = some cs) (k : wpL E qt ops l (St.mk nt (upd tm d (.agg cs)) rg esc g) K) :
    wpL E qt ops (⟨some d, .build t ps, ty, pos, after, gd⟩ :: l) (St.mk nt tm rg esc g) K := wpl_op (s1 := St.mk nt tm rg esc g) h hd rfl (by simp only [stepV, hu, hz, hp, hl, hc]; rfl) k
theorem wpl_buildSlice {t e : TypeId} {n m : Nat} {ps : Array (Nat × Operand)} {z cs : List V} {vs : List (Nat × V)} (h : Wants ops nt tm gd true) (hd : d < nt) (he : esc d = false) (hu : elemOf E t = some e) (hs : sz E e = some n) (hz : zeroOf E e = some z) (hp : St.parts E (St.mk nt tm rg esc g) ps.toList = some vs)
    (hb : (Nat.blt 0 n && Nat.beq z.length n && Nat.ble (m * n) 16777216 && z.all one) = true) (hc : fillIn (fun i => some (i * n, n)) (List.replicate m z).flatten vs = some cs) (k : wpL E qt ops l (St.mk nt (upd tm d (.sl (chunks n m cs) .exact)) rg esc g) K) :
    wpL E qt ops (⟨some d, .buildSlice t m ps, ty, pos, after, gd⟩ :: l) (St.mk nt tm rg esc g) K := by
  simp only [Bool.and_eq_true] at hb
  obtain ⟨⟨⟨b1, b2⟩, b3⟩, b4⟩ := hb
  have b1 : 0 < n := Nat.le_of_ble_eq_true b1
  have b2 := Nat.eq_of_beq_eq_true b2
  have b3 := Nat.le_of_ble_eq_true b3
  refine wpl_op (s1 := St.mk nt tm rg esc g) h hd rfl ?_ k
  simp only [stepV, hu, hs, hz, hp]
  rw [if_neg (by rw [b4]; simp; omega), hc]
  simp [St.big, he]
theorem wpl_extract {x : Operand} {i : Nat} {vs : List V} {v : V} (h : Wants ops nt tm gd true) (hd : d < nt) (hx : St.ev E (St.mk nt tm rg esc g) x = some (.tup vs)) (hv : vs[i]? = some v) (k : wpL E qt ops l (St.mk nt (upd tm d v) rg esc g) K) :
    wpL E qt ops (⟨some d, .extract x i, ty, pos, after, gd⟩ :: l) (St.mk nt tm rg esc g) K := wpl_op (s1 := St.mk nt tm rg esc g) h hd rfl (by simp only [stepV, hx, hv]) k
theorem wpl_slice {t : TypeId} {x : Operand} {lo hi : Option Operand} {a v : V} {L H : Option V} (h : Wants ops nt tm gd true) (hd : d < nt) (hx : St.ev E (St.mk nt tm rg esc g) x = some a) (h1 : optEv E (St.mk nt tm rg esc g) lo = some L) (h2 : optEv E (St.mk nt tm rg esc g) hi = some H)
    (hv : St.slice E (St.mk nt tm rg esc g) t a L H = some v) (k : wpL E qt ops l (St.mk nt (upd tm d v) rg esc g) K) :
    wpL E qt ops (⟨some d, .slice t x lo hi none, ty, pos, after, gd⟩ :: l) (St.mk nt tm rg esc g) K := wpl_op (s1 := St.mk nt tm rg esc g) h hd rfl (by simp only [stepV, hx, h1, h2, hv]; rfl) k
theorem wpl_index {t : TypeId} {x y : Operand} {b : ByteArray} {kk : IntKind} {j : Int} {c : UInt8} (h : Wants ops nt tm gd true) (hd : d < nt) (hx : St.ev E (St.mk nt tm rg esc g) x = some (.p (.str b))) (hy : St.ev E (St.mk nt tm rg esc g) y = some (.p (.int kk j)))
    (hu : E.P.underlying t = some .string) (hj : 0 ≤ j) (hc : b[j.toNat]? = some c) (k : wpL E qt ops l (St.mk nt (upd tm d (.p (.int .u8 c.toNat))) rg esc g) K) :
    wpL E qt ops (⟨some d, .index t x y, ty, pos, after, gd⟩ :: l) (St.mk nt tm rg esc g) K := wpl_op (s1 := St.mk nt tm rg esc g) h hd rfl (by simp only [stepV, hx, hy, hu, hj, if_true, hc]) k
end
end Go.Vm
set_option linter.unusedVariables false
namespace Go.Vm
open Go
structure Sl (α : Type) where
  nil : Bool
  l : List α
  ok : nil = true → l = []
def Sl.enc {α : Type} (f : α → List PV) (x : Sl α) : PV := bif x.nil then .nilsl else .sl (x.l.map f)
def eInt (n : Int) : List PV := [.int .i64 n]
def eStr (s : ByteArray) : List PV := [.str s]
def eBool (b : Bool) : List PV := [.bool b]
section
variable {E : Env} {qt : Bool} {ops : Array Oper} {l : List Oper} {K : St → Prop}
variable {nt : Nat} {tm : Nat → V} {rg : Nat → Option (Nat × List V)} {esc : Nat → Bool} {g : G}
variable {d : Nat} {ty : TypeId} {pos : String} {after : Array Edge} {gd : Option (Nat × Bool)} {op : Op}
variable {α : Type} {f : α → List PV} {x : Sl α}
theorem upd_self {β : Type} {f : Nat → β} {t : Nat} {v : β} (h : f t = v) : upd f t v = f := by
  funext y
  simp only [upd]
  split
  · rename_i e; rw [e, h]
  · rfl
theorem ldR {t : TypeId} {row : List V} {v : V} {r : List V} {s : St} (hi : isag E t = some false) (hr : row = v :: r) : s.loadV E t (.ref row) = some v := by
  subst hr
  simp [St.loadV, hi, St.loadCells, take?]
theorem ldRA {t : TypeId} {n : Nat} {row r : List V} {s : St} (hi : isag E t = some true) (hz : sz E t = some n) (hr : take? row 0 n = some r) : s.loadV E t (.ref row) = some (.agg r) := by
  simp [St.loadV, hi, hz, St.loadCells, hr]
theorem ldL {t : TypeId} {i G off : Nat} {cs : List V} {v : V} (hi : isag E t = some false) (hr : rg i = some (G, cs)) (hc : take? cs off 1 = some [v]) : St.loadV E (St.mk nt tm rg esc g) t (.loc i G off) = some v := by
  simp [St.loadV, hi, St.loadCells, hr, hc]
theorem ldLA {t : TypeId} {n i G off : Nat} {cs r : List V} (hi : isag E t = some true) (hz : sz E t = some n) (hr : rg i = some (G, cs)) (hc : take? cs off n = some r) : St.loadV E (St.mk nt tm rg esc g) t (.loc i G off) = some (.agg r) := by
  simp [St.loadV, hi, hz, St.loadCells, hr, hc]
inductive Rd (f : α → List PV) : V → List α → Prop where
  | nil : Rd f (.p .nilsl) []
  | p (xs : List α) : Rd f (.p (.sl (xs.map f))) xs
  | sl (xs : List α) (k : SK) : Rd f (.sl (xs.map fun a => (f a).map .p) k) xs
theorem Rd.enc {x : Sl α} : Rd f (.p (x.enc f)) x.l := by
  unfold Sl.enc
  cases h : x.nil with
  | true => rw [x.ok h]; exact .nil
  | false => exact .p _
theorem Rd.one {v : V} {xs : List α} (h : Rd f v xs) : one v = true ∧ cellsOf v = [v] := by cases h <;> exact ⟨rfl, rfl⟩
theorem len_rd {v : V} {xs : List α} (h : Rd f v xs) {e : TypeId} {s : St} : lenOf s (.slice e) v = some xs.length := by
  cases h <;> simp [lenOf]
theorem wpl_lenS {y : Operand} {t e : TypeId} {v : V} {xs : List α} (h : Wants ops nt tm gd true) (hd : d < nt) (hx : St.ev E (St.mk nt tm rg esc g) y = some v) (hr : Rd f v xs) (hu : E.P.underlying t = some (.slice e))
    (k : wpL E qt ops l (St.mk nt (upd tm d (.p (.int .i64 xs.length))) rg esc g) K) : wpL E qt ops (⟨some d, .call { callee := .builtin .len, args := #[y], argTypes := #[t] }, ty, pos, after, gd⟩ :: l) (St.mk nt tm rg esc g) K :=
  wpl_len h hd hx hu (len_rd hr) k
theorem wpl_iaI {t e : TypeId} {n : Nat} {p q : Operand} {i : Int} {a : α} {v : V} {xs : List α} (h : Wants ops nt tm gd true) (hd : d < nt) (hp : St.ev E (St.mk nt tm rg esc g) p = some v) (hr : Rd f v xs) (hq : St.ev E (St.mk nt tm rg esc g) q = some (.p (.int .i64 i)))
    (hu : E.P.underlying t = some (.slice e)) (hz : sz E e = some n) (hn : n ≠ 0) (hi : 0 ≤ i) (ha : xs[i.toNat]? = some a) (hl : (f a).length = n)
    (k : wpL E qt ops l (St.mk nt (upd tm d (.ref ((f a).map .p))) rg esc g) K) : wpL E qt ops (⟨some d, .indexAddr t p q, ty, pos, after, gd⟩ :: l) (St.mk nt tm rg esc g) K := by
  refine wpl_op (s1 := St.mk nt tm rg esc g) h hd rfl ?_ k
  simp only [stepV, hp, hq, hu, hz]
  rw [if_neg (by omega), if_neg hn]
  cases hr with
  | nil => simp at ha
  | p xs => simp only [List.getElem?_map, ha, Option.map_some]; rw [if_pos hl]
  | sl xs k => simp only [List.getElem?_map, ha, Option.map_some]; rw [if_pos (by simp [hl])]
theorem wpl_ia {t e : TypeId} {n : Nat} {p q : Operand} {j : Nat} {a : α} {v : V} {xs : List α} (h : Wants ops nt tm gd true) (hd : d < nt) (hp : St.ev E (St.mk nt tm rg esc g) p = some v) (hr : Rd f v xs) (hq : St.ev E (St.mk nt tm rg esc g) q = some (.p (.int .i64 j)))
    (hu : E.P.underlying t = some (.slice e)) (hz : sz E e = some n) (hn : n ≠ 0) (ha : xs[j]? = some a) (hl : (f a).length = n)
    (k : wpL E qt ops l (St.mk nt (upd tm d (.ref ((f a).map .p))) rg esc g) K) : wpL E qt ops (⟨some d, .indexAddr t p q, ty, pos, after, gd⟩ :: l) (St.mk nt tm rg esc g) K :=
  wpl_iaI h hd hp hr hq hu hz hn (by omega) (by simpa using ha) hl k
end
end Go.Vm
set_option linter.unusedVariables false
namespace Go.Vm
open Go
def getL : List (Nat × V) → Nat → Option V
  | [], _ => none
  | (k, v) :: l, t => bif Nat.beq k t then some v else getL l t
def ofL (b : Nat → V) : List (Nat × V) → Nat → V
  | [], t => b t
  | (k, v) :: l, t => bif Nat.beq k t then v else ofL b l t
def getR : List (Nat × (Nat × List V)) → Nat → Option (Nat × List V)
  | [], _ => none
  | (k, v) :: l, t => bif Nat.beq k t then some v else getR l t
def ofR (b : Nat → Option (Nat × List V)) : List (Nat × (Nat × List V)) → Nat → Option (Nat × List V)
  | [], t => b t
  | (k, v) :: l, t => bif Nat.beq k t then some v else ofR b l t
def Sx (nt : Nat) (b : Nat → V) (L : List (Nat × V)) (rb : Nat → Option (Nat × List V)) (R : List (Nat × (Nat × List V))) (esc : Nat → Bool) (g : G) : St := St.mk nt (ofL b L) (ofR rb R) esc g
def evX (E : Env) (L : List (Nat × V)) : Operand → Option V
  | .tmp t => getL L t
  | .const v => cst v
  | .global g => (E.glob g).map .ref
  | .func f => some (.fn (.func f) [])
def evXs (E : Env) (L : List (Nat × V)) : List Operand → Option (List V)
  | [] => some []
  | x :: l => match evX E L x with
    | none => none
    | some v => match evXs E L l with
      | none => none
      | some vs => some (v :: vs)
def partsX (E : Env) (L : List (Nat × V)) : List (Nat × Operand) → Option (List (Nat × V))
  | [] => some []
  | (i, x) :: l => match evX E L x with
    | none => none
    | some v => match partsX E L l with
      | none => none
      | some vs => some ((i, v) :: vs)
def wX (ops : Array Oper) (nt : Nat) (L : List (Nat × V)) (gd : Option (Nat × Bool)) : Option Bool :=
  match gd with
  | none => some true
  | some (j, w) => match (ops[j]?).bind (·.dst) with
    | none => none
    | some d => bif Nat.blt d nt then
      (match getL L d with
      | some (.p (.bool b)) => some (b == w)
      | some .undef => some false
      | _ => none) else none
section
variable {E : Env} {qt : Bool} {ops : Array Oper} {l : List Oper} {K : St → Prop}
variable {nt : Nat} {b : Nat → V} {L : List (Nat × V)} {rb : Nat → Option (Nat × List V)} {R : List (Nat × (Nat × List V))} {esc : Nat → Bool} {g : G}
variable {d : Nat} {ty : TypeId} {pos : String} {after : Array Edge} {gd : Option (Nat × Bool)} {op : Op}
theorem getL_of {t : Nat} {v : V} : ∀ {L : List (Nat × V)}, getL L t = some v → ofL b L t = v := by
  intro L
  induction L with
  | nil => intro h; cases h
  | cons x l ih =>
    obtain ⟨k, w⟩ := x
    simp only [getL, ofL]
    cases Nat.beq k t with
    | true => intro h; cases h; rfl
    | false => exact ih
theorem getR_of {t : Nat} {v : Nat × List V} : ∀ {R : List (Nat × (Nat × List V))}, getR R t = some v → ofR rb R t = some v := by
  intro R
  induction R with
  | nil => intro h; cases h
  | cons x l ih =>
    obtain ⟨k, w⟩ := x
    simp only [getR, ofR]
    cases Nat.beq k t with
    | true => intro h; cases h; rfl
    | false => exact ih
theorem ofL_upd {v : V} : upd (ofL b L) d v = ofL b ((d, v) :: L) := by
  funext t
  simp only [upd, ofL]
  cases hb : Nat.beq d t with
  | true => have := Nat.eq_of_beq_eq_true hb; simp [this]
  | false => rw [if_neg (fun e => by rw [e, Nat.beq_refl] at hb; cases hb)]; rfl
theorem ofR_upd {v : Nat × List V} : upd (ofR rb R) d (some v) = ofR rb ((d, v) :: R) := by
  funext t
  simp only [upd, ofR]
  cases hb : Nat.beq d t with
  | true => have := Nat.eq_of_beq_eq_true hb; simp [this]
  | false => rw [if_neg (fun e => by rw [e, Nat.beq_refl] at hb; cases hb)]; rfl
theorem evX_ok {x : Operand} {v : V} (h : evX E L x = some v) : St.ev E (St.mk nt (ofL b L) (ofR rb R) esc g) x = some v := by
  cases x with
  | tmp t => exact congrArg some (getL_of h)
  | _ => exact h
theorem evXs_ok : ∀ {xs : List Operand} {vs : List V}, evXs E L xs = some vs → evL E (St.mk nt (ofL b L) (ofR rb R) esc g) xs = some vs := by
  intro xs
  induction xs with
  | nil => intro vs h; exact h
  | cons x xs ih =>
    intro vs h
    simp only [evXs] at h
    split at h
    · cases h
    · rename_i v hv
      split at h
      · cases h
      · rename_i us hu; cases h; simp only [evL, evX_ok hv, ih hu]
theorem partsX_ok : ∀ {xs : List (Nat × Operand)} {vs : List (Nat × V)}, partsX E L xs = some vs → St.parts E (St.mk nt (ofL b L) (ofR rb R) esc g) xs = some vs := by
  intro xs
  induction xs with
  | nil => intro vs h; exact h
  | cons x xs ih =>
    obtain ⟨i, x⟩ := x
    intro vs h
    simp only [partsX] at h
    split at h
    · cases h
    · rename_i v hv
      split at h
      · cases h
      · rename_i us hu; cases h; simp only [St.parts, evX_ok hv, ih hu]
theorem wX_ok {w : Bool} (h : wX ops nt L gd = some w) : Wants ops nt (ofL b L) gd w := by
  intro s dst op ty pos after h1 h2
  unfold wX at h
  unfold wants
  cases gd with
  | none => simp only at h; cases h; rfl
  | some x =>
    obtain ⟨j, want⟩ := x
    simp only at h ⊢
    split at h
    · cases h
    · rename_i d hd
      simp only [hd]
      cases hb : Nat.blt d nt with
      | false => rw [hb] at h; cases h
      | true =>
        rw [hb] at h
        simp only [cond_true] at h
        rw [if_pos (by rw [h1]; exact Nat.le_of_ble_eq_true hb), h2]
        split at h
        · rename_i c hc
          cases h
          rw [getL_of hc]
        · rename_i hc
          cases h
          rw [getL_of hc]
        · cases h
variable {α : Type} {f : α → List PV} {xs : List α}
theorem blt {d nt : Nat} (h : Nat.blt d nt = true) : d < nt := Nat.le_of_ble_eq_true h
theorem xw (h : wX ops nt L gd = some true) : Wants ops nt (ofL b L) gd true := wX_ok h
theorem x_skip (h : wX ops nt L gd = some false) (hd : Nat.blt d nt = true) (k : wpL E qt ops l (Sx nt b ((d, .undef) :: L) rb R esc g) K) : wpL E qt ops (⟨some d, op, ty, pos, after, gd⟩ :: l) (Sx nt b L rb R esc g) K :=
  wpl_skip (wX_ok h) (blt hd) (by rw [ofL_upd]; exact k)
theorem x_skip0 (h : wX ops nt L gd = some false) (k : wpL E qt ops l (Sx nt b L rb R esc g) K) : wpL E qt ops (⟨none, op, ty, pos, after, gd⟩ :: l) (Sx nt b L rb R esc g) K :=
  wpl_skip0 (wX_ok h) k
theorem x_move {x : Operand} {v : V} (h : wX ops nt L gd = some true) (hd : Nat.blt d nt = true) (hx : evX E L x = some v) (k : wpL E qt ops l (Sx nt b ((d, v) :: L) rb R esc g) K) :
    wpL E qt ops (⟨some d, .move x, ty, pos, after, gd⟩ :: l) (Sx nt b L rb R esc g) K := wpl_move (wX_ok h) (blt hd) (evX_ok hx) (by rw [ofL_upd]; exact k)
theorem x_assign {x : Operand} {v : V} (h : wX ops nt L gd = some true) (hd : Nat.blt d nt = true) (hx : evX E L x = some v) (k : wpL E qt ops l (Sx nt b ((d, v) :: L) rb R esc g) K) :
    wpL E qt ops (⟨some d, .assign x, ty, pos, after, gd⟩ :: l) (Sx nt b L rb R esc g) K := wpl_assign (wX_ok h) (blt hd) (evX_ok hx) (by rw [ofL_upd]; exact k)
theorem x_moveS {x : Operand} {z : Bool} (h : wX ops nt L gd = some true) (hd : Nat.blt d nt = true) (hx : evX E L x = some (.p (.bool z)))
    (k1 : z = true → wpL E qt ops l (Sx nt b ((d, .p (.bool true)) :: L) rb R esc g) K) (k2 : z = false → wpL E qt ops l (Sx nt b ((d, .p (.bool false)) :: L) rb R esc g) K) :
    wpL E qt ops (⟨some d, .move x, ty, pos, after, gd⟩ :: l) (Sx nt b L rb R esc g) K := by
  refine x_move h hd hx ?_
  cases z
  · exact k2 rfl
  · exact k1 rfl
theorem x_pickT {c x y : Operand} {v : V} (h : wX ops nt L gd = some true) (hd : Nat.blt d nt = true) (hc : evX E L c = some (.p (.bool true))) (hx : evX E L x = some v) (k : wpL E qt ops l (Sx nt b ((d, v) :: L) rb R esc g) K) :
    wpL E qt ops (⟨some d, .pick c x y, ty, pos, after, gd⟩ :: l) (Sx nt b L rb R esc g) K := wpl_pickT (wX_ok h) (blt hd) (evX_ok hc) (evX_ok hx) (by rw [ofL_upd]; exact k)
theorem x_pickF {c x y : Operand} {v : V} (h : wX ops nt L gd = some true) (hd : Nat.blt d nt = true) (hc : evX E L c = some (.p (.bool false))) (hx : evX E L y = some v) (k : wpL E qt ops l (Sx nt b ((d, v) :: L) rb R esc g) K) :
    wpL E qt ops (⟨some d, .pick c x y, ty, pos, after, gd⟩ :: l) (Sx nt b L rb R esc g) K := wpl_pickF (wX_ok h) (blt hd) (evX_ok hc) (evX_ok hx) (by rw [ofL_upd]; exact k)
theorem x_nilP {x : Operand} {i o : Nat} (h : wX ops nt L gd = some true) (hd : Nat.blt d nt = true) (hx : evX E L x = some (.ptr i o)) (k : wpL E qt ops l (Sx nt b ((d, .ptr i o) :: L) rb R esc g) K) :
    wpL E qt ops (⟨some d, .nilCheck x, ty, pos, after, gd⟩ :: l) (Sx nt b L rb R esc g) K := wpl_nilCheckP (wX_ok h) (blt hd) (evX_ok hx) (by rw [ofL_upd]; exact k)
theorem x_bin {o : BinOp} {t u : TypeId} {x y : Operand} {a c : V} {z : PV} (h : wX ops nt L gd = some true) (hd : Nat.blt d nt = true) (hx : evX E L x = some a) (hy : evX E L y = some c) (hz : bin E o t a c = some z)
    (k : wpL E qt ops l (Sx nt b ((d, .p z) :: L) rb R esc g) K) : wpL E qt ops (⟨some d, .binOp o t x y u, ty, pos, after, gd⟩ :: l) (Sx nt b L rb R esc g) K := wpl_bin (wX_ok h) (blt hd) (evX_ok hx) (evX_ok hy) hz (by rw [ofL_upd]; exact k)
theorem x_cmp {o : BinOp} {t u : TypeId} {x y : Operand} {m n : Int} {z : Bool} (h : wX ops nt L gd = some true) (hd : Nat.blt d nt = true) (hx : evX E L x = some (.p (.int .i64 m))) (hy : evX E L y = some (.p (.int .i64 n))) (hz : bin E o t (.p (.int .i64 m)) (.p (.int .i64 n)) = some (.bool z))
    (k : wpL E qt ops l (Sx nt b ((d, .p (.bool z)) :: L) rb R esc g) K) : wpL E qt ops (⟨some d, .binOp o t x y u, ty, pos, after, gd⟩ :: l) (Sx nt b L rb R esc g) K := x_bin h hd hx hy hz k
theorem x_add {t u : TypeId} {x y : Operand} {m n : Int} (h : wX ops nt L gd = some true) (hd : Nat.blt d nt = true) (hx : evX E L x = some (.p (.int .i64 m))) (hy : evX E L y = some (.p (.int .i64 n)))
    (h1 : -9223372036854775808 ≤ m + n) (h2 : m + n ≤ 9223372036854775807)
    (k : wpL E qt ops l (Sx nt b ((d, .p (.int .i64 (m + n))) :: L) rb R esc g) K) : wpL E qt ops (⟨some d, .binOp .add t x y u, ty, pos, after, gd⟩ :: l) (Sx nt b L rb R esc g) K := wpl_add (wX_ok h) (blt hd) (evX_ok hx) (evX_ok hy) h1 h2 (by rw [ofL_upd]; exact k)
theorem x_inc {t u : TypeId} {x y : Operand} {j : Nat} (h : wX ops nt L gd = some true) (hd : Nat.blt d nt = true) (hx : evX E L x = some (.p (.int .i64 j))) (hy : evX E L y = some (.p (.int .i64 1)))
    (h2 : j < 9223372036854775807)
    (k : wpL E qt ops l (Sx nt b ((d, .p (.int .i64 (j + 1 : Nat))) :: L) rb R esc g) K) : wpL E qt ops (⟨some d, .binOp .add t x y u, ty, pos, after, gd⟩ :: l) (Sx nt b L rb R esc g) K :=
  x_add h hd hx hy (by omega) (by omega) k
theorem x_sub {t u : TypeId} {x y : Operand} {m n : Int} (h : wX ops nt L gd = some true) (hd : Nat.blt d nt = true) (hx : evX E L x = some (.p (.int .i64 m))) (hy : evX E L y = some (.p (.int .i64 n)))
    (h1 : -9223372036854775808 ≤ m - n) (h2 : m - n ≤ 9223372036854775807)
    (k : wpL E qt ops l (Sx nt b ((d, .p (.int .i64 (m - n))) :: L) rb R esc g) K) : wpL E qt ops (⟨some d, .binOp .sub t x y u, ty, pos, after, gd⟩ :: l) (Sx nt b L rb R esc g) K := wpl_sub (wX_ok h) (blt hd) (evX_ok hx) (evX_ok hy) h1 h2 (by rw [ofL_upd]; exact k)
theorem x_not {t : TypeId} {x : Operand} {c : Bool} (h : wX ops nt L gd = some true) (hd : Nat.blt d nt = true) (hx : evX E L x = some (.p (.bool c))) (k : wpL E qt ops l (Sx nt b ((d, .p (.bool (!c))) :: L) rb R esc g) K) :
    wpL E qt ops (⟨some d, .unOp .not t x, ty, pos, after, gd⟩ :: l) (Sx nt b L rb R esc g) K := wpl_not (wX_ok h) (blt hd) (evX_ok hx) (by rw [ofL_upd]; exact k)
theorem x_ldR {t : TypeId} {x : Operand} {row r : List V} {v : V} (h : wX ops nt L gd = some true) (hd : Nat.blt d nt = true) (hx : evX E L x = some (.ref row)) (hi : isag E t = some false) (hr : row = v :: r) (k : wpL E qt ops l (Sx nt b ((d, v) :: L) rb R esc g) K) :
    wpL E qt ops (⟨some d, .load t x, ty, pos, after, gd⟩ :: l) (Sx nt b L rb R esc g) K := wpl_load (wX_ok h) (blt hd) (evX_ok hx) (ldR hi hr) (by rw [ofL_upd]; exact k)
theorem x_ldRA {t : TypeId} {n : Nat} {x : Operand} {row r : List V} (h : wX ops nt L gd = some true) (hd : Nat.blt d nt = true) (hx : evX E L x = some (.ref row)) (hi : isag E t = some true) (hz : sz E t = some n) (hr : take? row 0 n = some r) (k : wpL E qt ops l (Sx nt b ((d, .agg r) :: L) rb R esc g) K) :
    wpL E qt ops (⟨some d, .load t x, ty, pos, after, gd⟩ :: l) (Sx nt b L rb R esc g) K := wpl_load (wX_ok h) (blt hd) (evX_ok hx) (ldRA hi hz hr) (by rw [ofL_upd]; exact k)
theorem x_ldL {t : TypeId} {x : Operand} {i G off : Nat} {cs : List V} {v : V} (h : wX ops nt L gd = some true) (hd : Nat.blt d nt = true) (hx : evX E L x = some (.loc i G off)) (hi : isag E t = some false) (hr : getR R i = some (G, cs)) (hc : take? cs off 1 = some [v]) (k : wpL E qt ops l (Sx nt b ((d, v) :: L) rb R esc g) K) :
    wpL E qt ops (⟨some d, .load t x, ty, pos, after, gd⟩ :: l) (Sx nt b L rb R esc g) K := wpl_load (wX_ok h) (blt hd) (evX_ok hx) (ldL hi (getR_of hr) hc) (by rw [ofL_upd]; exact k)
theorem x_ldLA {t : TypeId} {n : Nat} {x : Operand} {i G off : Nat} {cs r : List V} (h : wX ops nt L gd = some true) (hd : Nat.blt d nt = true) (hx : evX E L x = some (.loc i G off)) (hi : isag E t = some true) (hz : sz E t = some n) (hr : getR R i = some (G, cs)) (hc : take? cs off n = some r) (k : wpL E qt ops l (Sx nt b ((d, .agg r) :: L) rb R esc g) K) :
    wpL E qt ops (⟨some d, .load t x, ty, pos, after, gd⟩ :: l) (Sx nt b L rb R esc g) K := wpl_load (wX_ok h) (blt hd) (evX_ok hx) (ldLA hi hz (getR_of hr) hc) (by rw [ofL_upd]; exact k)
theorem x_fa {t : TypeId} {x : Operand} {fi off n : Nat} {ag : Bool} {a v : V} (h : wX ops nt L gd = some true) (hd : Nat.blt d nt = true) (hx : evX E L x = some a) (hf : fieldOf E t fi = some (off, n, ag)) (ha : addTo a off = some v)
    (k : wpL E qt ops l (Sx nt b ((d, v) :: L) rb R esc g) K) : wpL E qt ops (⟨some d, .fieldAddr t x fi, ty, pos, after, gd⟩ :: l) (Sx nt b L rb R esc g) K := wpl_fieldAddr (wX_ok h) (blt hd) (evX_ok hx) hf ha (by rw [ofL_upd]; exact k)
theorem x_field {t : TypeId} {x : Operand} {fi off n : Nat} {ag : Bool} {cs r : List V} {v : V} (h : wX ops nt L gd = some true) (hd : Nat.blt d nt = true) (hx : evX E L x = some (.agg cs)) (hf : fieldOf E t fi = some (off, n, ag)) (hr : take? cs off n = some r) (hv : mkv ag r = some v)
    (k : wpL E qt ops l (Sx nt b ((d, v) :: L) rb R esc g) K) : wpL E qt ops (⟨some d, .field t x fi, ty, pos, after, gd⟩ :: l) (Sx nt b L rb R esc g) K := wpl_field (wX_ok h) (blt hd) (evX_ok hx) hf hr hv (by rw [ofL_upd]; exact k)
theorem x_len {t e : TypeId} {y : Operand} {v : V} (h : wX ops nt L gd = some true) (hd : Nat.blt d nt = true) (hx : evX E L y = some v) (hr : Rd f v xs) (hu : E.P.underlying t = some (.slice e))
    (k : wpL E qt ops l (Sx nt b ((d, .p (.int .i64 xs.length)) :: L) rb R esc g) K) : wpL E qt ops (⟨some d, .call { callee := .builtin .len, args := #[y], argTypes := #[t] }, ty, pos, after, gd⟩ :: l) (Sx nt b L rb R esc g) K := wpl_lenS (wX_ok h) (blt hd) (evX_ok hx) hr hu (by rw [ofL_upd]; exact k)
theorem x_lenStr {t : TypeId} {y : Operand} {s : ByteArray} (h : wX ops nt L gd = some true) (hd : Nat.blt d nt = true) (hx : evX E L y = some (.p (.str s))) (hu : E.P.underlying t = some .string)
    (k : wpL E qt ops l (Sx nt b ((d, .p (.int .i64 s.size)) :: L) rb R esc g) K) : wpL E qt ops (⟨some d, .call { callee := .builtin .len, args := #[y], argTypes := #[t] }, ty, pos, after, gd⟩ :: l) (Sx nt b L rb R esc g) K := wpl_len (wX_ok h) (blt hd) (evX_ok hx) hu rfl (by rw [ofL_upd]; exact k)
theorem x_ia {t e : TypeId} {n : Nat} {p q : Operand} {j : Nat} {a : α} {v : V} (h : wX ops nt L gd = some true) (hd : Nat.blt d nt = true) (hp : evX E L p = some v) (hr : Rd f v xs) (hq : evX E L q = some (.p (.int .i64 j)))
    (hu : E.P.underlying t = some (.slice e)) (hz : sz E e = some n) (hn : Nat.beq n 0 = false) (ha : xs[j]? = some a) (hl : (f a).length = n)
    (k : wpL E qt ops l (Sx nt b ((d, .ref ((f a).map .p)) :: L) rb R esc g) K) : wpL E qt ops (⟨some d, .indexAddr t p q, ty, pos, after, gd⟩ :: l) (Sx nt b L rb R esc g) K :=
  wpl_ia (wX_ok h) (blt hd) (evX_ok hp) hr (evX_ok hq) hu hz (fun e => by rw [e] at hn; cases hn) ha hl (by rw [ofL_upd]; exact k)
theorem x_iaI {t e : TypeId} {n : Nat} {p q : Operand} {i : Int} {a : α} {v : V} (h : wX ops nt L gd = some true) (hd : Nat.blt d nt = true) (hp : evX E L p = some v) (hr : Rd f v xs) (hq : evX E L q = some (.p (.int .i64 i)))
    (hu : E.P.underlying t = some (.slice e)) (hz : sz E e = some n) (hn : Nat.beq n 0 = false) (hi : 0 ≤ i) (ha : xs[i.toNat]? = some a) (hl : (f a).length = n)
    (k : wpL E qt ops l (Sx nt b ((d, .ref ((f a).map .p)) :: L) rb R esc g) K) : wpL E qt ops (⟨some d, .indexAddr t p q, ty, pos, after, gd⟩ :: l) (Sx nt b L rb R esc g) K :=
  wpl_iaI (wX_ok h) (blt hd) (evX_ok hp) hr (evX_ok hq) hu hz (fun e => by rw [e] at hn; cases hn) hi ha hl (by rw [ofL_upd]; exact k)
theorem x_box {t : TypeId} {x : Operand} {v : V} (h : wX ops nt L gd = some true) (hd : Nat.blt d nt = true) (he : esc d = false) (hx : evX E L x = some v) (ho : (cellsOf v).all one = true)
    (k : wpL E qt ops l (Sx nt b ((d, .loc d (genOf (ofR rb R d)) 0) :: L) rb ((d, (genOf (ofR rb R d), cellsOf v)) :: R) esc g) K) :
    wpL E qt ops (⟨some d, .box t x, ty, pos, after, gd⟩ :: l) (Sx nt b L rb R esc g) K := wpl_box (wX_ok h) (blt hd) he (evX_ok hx) ho (by rw [ofL_upd, ofR_upd]; exact k)
theorem x_alloc {t : TypeId} {cs : List V} (h : wX ops nt L gd = some true) (hd : Nat.blt d nt = true) (he : esc d = false) (hz : zeroOf E t = some cs) (ho : cs.all one = true)
    (k : wpL E qt ops l (Sx nt b ((d, .loc d (genOf (ofR rb R d)) 0) :: L) rb ((d, (genOf (ofR rb R d), cs)) :: R) esc g) K) :
    wpL E qt ops (⟨some d, .alloc t, ty, pos, after, gd⟩ :: l) (Sx nt b L rb R esc g) K := wpl_alloc (wX_ok h) (blt hd) he hz ho (by rw [ofL_upd, ofR_upd]; exact k)
theorem x_stL {t : TypeId} {x y : Operand} {i G off n : Nat} {v : V} {cs cs' : List V} (h : wX ops nt L gd = some true) (hx : evX E L x = some (.loc i G off)) (hy : evX E L y = some v) (hz : sz E t = some n) (hn : (cellsOf v).length = n)
    (ho : (cellsOf v).all one = true) (hr : getR R i = some (G, cs)) (hp : put? cs off (cellsOf v) = some cs') (k : wpL E qt ops l (Sx nt b L rb ((i, (G, cs')) :: R) esc g) K) :
    wpL E qt ops (⟨none, .store t x y, ty, pos, after, gd⟩ :: l) (Sx nt b L rb R esc g) K := wpl_storeL (wX_ok h) (evX_ok hx) (evX_ok hy) hz hn ho (getR_of hr) hp (by rw [ofR_upd]; exact k)
theorem x_call {fn : FuncId} {args : Array Operand} {ats : Array TypeId} {vs : List V} {r : V} (h : wX ops nt L gd = some true) (hd : Nat.blt d nt = true) (ha : evXs E L args.toList = some vs) (ho : (vs.flatMap cellsOf).all one = true) (hf : okFn E fn = true) (hp : CallsAt E g fn vs r g)
    (k : wpL E qt ops l (Sx nt b ((d, r) :: L) rb R esc g) K) : wpL E qt ops (⟨some d, .call { callee := .value (.func fn), args := args, argTypes := ats }, ty, pos, after, gd⟩ :: l) (Sx nt b L rb R esc g) K := wpl_call (wX_ok h) (blt hd) (evXs_ok ha) ho hf hp (by rw [ofL_upd]; exact k)
theorem x_build {t : TypeId} {ps : Array (Nat × Operand)} {fs : Array Field} {z cs : List V} {vs : List (Nat × V)} {pl : List (Nat × Nat)} (h : wX ops nt L gd = some true) (hd : Nat.blt d nt = true) (hu : E.P.underlying t = some (.struct fs)) (hz : zeroOf E t = some z) (hp : partsX E L ps.toList = some vs)
    (hl : placesL E fs.toList = some pl) (hc : fillIn (pl[·]?) z vs = some cs) (k : wpL E qt ops l (Sx nt b ((d, .agg cs) :: L) rb R esc g) K) :
    wpL E qt ops (⟨some d, .build t ps, ty, pos, after, gd⟩ :: l) (Sx nt b L rb R esc g) K := wpl_build (wX_ok h) (blt hd) hu hz (partsX_ok hp) hl hc (by rw [ofL_upd]; exact k)
theorem x_bs {t e : TypeId} {n m : Nat} {ps : Array (Nat × Operand)} {z cs : List V} {vs : List (Nat × V)} (h : wX ops nt L gd = some true) (hd : Nat.blt d nt = true) (he : esc d = false) (hu : elemOf E t = some e) (hs : sz E e = some n) (hz : zeroOf E e = some z) (hp : partsX E L ps.toList = some vs)
    (hb : (Nat.blt 0 n && Nat.beq z.length n && Nat.ble (m * n) 16777216 && z.all one) = true) (hc : fillIn (fun i => some (i * n, n)) (List.replicate m z).flatten vs = some cs) (k : wpL E qt ops l (Sx nt b ((d, .sl (chunks n m cs) .exact) :: L) rb R esc g) K) :
    wpL E qt ops (⟨some d, .buildSlice t m ps, ty, pos, after, gd⟩ :: l) (Sx nt b L rb R esc g) K := wpl_buildSlice (wX_ok h) (blt hd) he hu hs hz (partsX_ok hp) hb hc (by rw [ofL_upd]; exact k)
theorem x_extract {x : Operand} {i : Nat} {vs : List V} {v : V} (h : wX ops nt L gd = some true) (hd : Nat.blt d nt = true) (hx : evX E L x = some (.tup vs)) (hv : vs[i]? = some v) (k : wpL E qt ops l (Sx nt b ((d, v) :: L) rb R esc g) K) :
    wpL E qt ops (⟨some d, .extract x i, ty, pos, after, gd⟩ :: l) (Sx nt b L rb R esc g) K := wpl_extract (wX_ok h) (blt hd) (evX_ok hx) hv (by rw [ofL_upd]; exact k)
theorem x_index {t : TypeId} {x y : Operand} {s : ByteArray} {kk : IntKind} {j : Int} {c : UInt8} (h : wX ops nt L gd = some true) (hd : Nat.blt d nt = true) (hx : evX E L x = some (.p (.str s))) (hy : evX E L y = some (.p (.int kk j)))
    (hu : E.P.underlying t = some .string) (hj : 0 ≤ j) (hc : s[j.toNat]? = some c) (k : wpL E qt ops l (Sx nt b ((d, .p (.int .u8 c.toNat)) :: L) rb R esc g) K) :
    wpL E qt ops (⟨some d, .index t x y, ty, pos, after, gd⟩ :: l) (Sx nt b L rb R esc g) K := wpl_index (wX_ok h) (blt hd) (evX_ok hx) (evX_ok hy) hu hj hc (by rw [ofL_upd]; exact k)
variable {Q : X → St → Prop} {ks : List Ko}
theorem xc_cond {c : Operand} {p q : Code} (t : Bool) (hc : evX E L c = some (.p (.bool t))) (h1 : t = true → Wc E Q p ks (Sx nt b L rb R esc g)) (h2 : t = false → Wc E Q q ks (Sx nt b L rb R esc g)) : Wc E Q (.cond c p q) ks (Sx nt b L rb R esc g) :=
  wc_cond t (evX_ok hc) h1 h2
theorem xc_drw {id : Nat} (lo : List Nat) (hm : E.P.follows .mixedOrders = true)
    (ho : (tabOk ops (aheads ops) && Nat.ble lo.length ops.size && ordOk (fun _ => true) esc ops (aheads ops) 0 lo && lo.all (fun i => Nat.blt i ops.size)) = true)
    (h : ∀ K : St → Prop, (∀ s', Go' E Q ks .normal s' → K s') → wpL E true ops (lo.filterMap (ops[·]?)) (Sx nt b L rb R esc g) K) : Wc E Q (.region id ops true) ks (Sx nt b L rb R esc g) :=
  wc_drw lo esc hm ho rfl h
theorem ofL_nil : ofL b [] = b := rfl
theorem ofL_self {t : Nat} {v : V} (h : ofL b L t = v) : ofL b ((t, v) :: L) = ofL b L := by
  funext y
  simp only [ofL]
  cases hb : Nat.beq t y with
  | true => have := Nat.eq_of_beq_eq_true hb; subst this; exact h.symm
  | false => rfl
def Agr (b : Nat → V) (L : List (Nat × V)) : Prop := ∀ t v, getL L t = some v → b t = v
def AgrR (b : Nat → Option (Nat × List V)) (L : List (Nat × (Nat × List V))) : Prop := ∀ t v, getR L t = some v → b t = some v
theorem Agr.eq (h : Agr b L) : ofL b L = b := by
  funext t
  cases hg : getL L t with
  | some v => rw [getL_of hg]; exact (h t v hg).symm
  | none =>
    have : ∀ L : List (Nat × V), getL L t = none → ofL b L t = b t := by
      intro L
      induction L with
      | nil => intro _; rfl
      | cons x l ih =>
        obtain ⟨k, w⟩ := x
        simp only [getL, ofL]
        cases Nat.beq k t with
        | true => intro h; cases h
        | false => exact ih
    exact this L hg
theorem AgrR.eq (h : AgrR rb R) : ofR rb R = rb := by
  funext t
  cases hg : getR R t with
  | some v => rw [getR_of hg]; exact (h t v hg).symm
  | none =>
    have : ∀ L : List (Nat × (Nat × List V)), getR L t = none → ofR rb L t = rb t := by
      intro L
      induction L with
      | nil => intro _; rfl
      | cons x l ih =>
        obtain ⟨k, w⟩ := x
        simp only [getR, ofR]
        cases Nat.beq k t with
        | true => intro h; cases h
        | false => exact ih
    exact this R hg
def Hd (nt : Nat) (esc : Nat → Bool) (g : G) (L : List (Nat × V)) (R : List (Nat × (Nat × List V))) (s : St) : Prop :=
  ∃ b rb, s = Sx nt b L rb R esc g
theorem Hd.of {L0 : List (Nat × V)} {R0 : List (Nat × (Nat × List V))} (hL : ∀ t v, getL L t = some v → ofL b L0 t = v) (hR : ∀ t v, getR R t = some v → ofR rb R0 t = some v) : Hd nt esc g L R (Sx nt b L0 rb R0 esc g) := by
  refine ⟨ofL b L0, ofR rb R0, ?_⟩
  unfold Sx
  rw [Agr.eq (b := ofL b L0) (L := L) hL, AgrR.eq (rb := ofR rb R0) (R := R) hR]
def subL : List (Nat × V) → List (Nat × V) → Prop
  | [], _ => True
  | (t, v) :: l, L0 => getL L0 t = some v ∧ subL l L0
def subR : List (Nat × (Nat × List V)) → List (Nat × (Nat × List V)) → Prop
  | [], _ => True
  | (t, v) :: l, L0 => getR L0 t = some v ∧ subR l L0
theorem Hd.mk {L0 : List (Nat × V)} {R0 : List (Nat × (Nat × List V))} (hL : subL L L0) (hR : subR R R0) : Hd nt esc g L R (Sx nt b L0 rb R0 esc g) := by
  refine Hd.of (fun t v h => ?_) (fun t v h => ?_)
  · induction L with
    | nil => cases h
    | cons x l ih =>
      obtain ⟨k, w⟩ := x
      simp only [getL] at h
      cases hb : Nat.beq k t with
      | true => rw [hb] at h; cases h; have := Nat.eq_of_beq_eq_true hb; subst this; exact getL_of hL.1
      | false => rw [hb] at h; exact ih hL.2 h
  · induction R with
    | nil => cases h
    | cons x l ih =>
      obtain ⟨k, w⟩ := x
      simp only [getR] at h
      cases hb : Nat.beq k t with
      | true => rw [hb] at h; cases h; have := Nat.eq_of_beq_eq_true hb; subst this; exact getR_of hR.1
      | false => rw [hb] at h; exact ih hR.2 h
end
section
variable {E : Env}
theorem args_of : ∀ (args : List V) (t : Nat), ofL (fun _ => .undef) ((List.range args.length).map fun i => (i, args.getD i .undef)) t = args.getD t .undef := by
  intro args t
  have main : ∀ (n : Nat) (l : List Nat), (∀ i, i ∈ l → i < n) → (t ∈ l ↔ t < n) → ofL (fun _ => V.undef) (l.map fun i => (i, args.getD i .undef)) t = if t < n then args.getD t .undef else .undef := by
    intro n l
    induction l with
    | nil => intro _ h; simp only [List.map_nil, ofL]; rw [if_neg]; intro h2; exact absurd (h.2 h2) (by simp)
    | cons x l ih =>
      intro h1 h2
      simp only [List.map_cons, ofL]
      cases hb : Nat.beq x t with
      | true => have := Nat.eq_of_beq_eq_true hb; subst this; simp [h1 x (by simp)]
      | false =>
        have hne : t ≠ x := fun e => by rw [e, Nat.beq_refl] at hb; cases hb
        exact ih (fun i hi => h1 i (List.mem_cons_of_mem _ hi)) ⟨fun hm => h2.1 (List.mem_cons_of_mem _ hm), fun hlt => (List.mem_cons.1 (h2.2 hlt)).resolve_left hne⟩
  rw [main args.length _ (fun i hi => List.mem_range.1 hi) List.mem_range]
  split
  · rfl
  · rename_i h
    rw [List.getD_eq_getElem?_getD, List.getElem?_eq_none (by omega)]; rfl
theorem pure_walk {f : FuncId} {fn : Func} {body : Code} {args : List V} {r : V} (L : List (Nat × V)) (hf : E.P.funcs[f]? = some fn) (hb : fn.body = some body) (ha : Nat.ble args.length fn.ntmps = true)
    (hL : L = (List.range args.length).map fun i => (i, args.getD i .undef))
    (h : ∀ g, g.wo = g.objs.length → g.wt = g.toks.length → Wc E (fun e s' => (e = .normal ∨ e = .ret) ∧ ∃ vs ws, resOf E s' fn.results.toList = some vs ∧ sealL s'.g vs = some ws ∧ s'.g.wo = g.wo ∧ s'.g.wt = g.wt ∧ pack ws = r) body []
      (Sx fn.ntmps (fun _ => .undef) L (fun _ => none) [] (E.esc f) g)) : Pure E f args r := by
  refine pure_intro hf hb (Nat.le_of_ble_eq_true ha) fun g h1 h2 => ?_
  have := h g h1 h2
  unfold Sx at this
  have e : (fun t => args.getD t .undef) = ofL (fun _ => .undef) L := by funext t; rw [hL, args_of]
  rw [e]
  exact this
end
end Go.Vm
set_option linter.unusedVariables false
namespace Go.Vm
open Go
section
variable {E : Env} {nt : Nat} {b : Nat → V} {L : List (Nat × V)} {rb : Nat → Option (Nat × List V)} {R : List (Nat × (Nat × List V))} {esc : Nat → Bool} {g : G}
variable {Q : X → St → Prop} {ks : List Ko}
theorem xc_loopG {σ : Type} {body : Code} (Lf : List (Nat × V)) (Rf : List (Nat × (Nat × List V))) (Lv : σ → List (Nat × V)) (Rv : σ → List (Nat × (Nat × List V))) (Gv : σ → G) (I : σ → Prop) (μ : σ → Nat) (x0 : σ)
    (hL : subL (Lv x0 ++ Lf) L) (hR : subR (Rv x0 ++ Rf) R) (hG : Gv x0 = g) (hI : I x0)
    (h : ∀ (x : σ) (R' : X → St → Prop), (∀ x' b' L' rb' RL' g', I x' → μ x' < μ x → subL (Lv x' ++ Lf) L' → subR (Rv x' ++ Rf) RL' → Gv x' = g' → R' .normal (Sx nt b' L' rb' RL' esc g')) →
      (∀ e s', e ≠ .normal → Go' E Q ks e s' → R' e s') → I x → ∀ b rb, Wc E R' body [] (Sx nt b (Lv x ++ Lf) rb (Rv x ++ Rf) esc (Gv x))) : Wc E Q (.loop body) ks (Sx nt b L rb R esc g) := by
  refine wc_loop (fun k s => ∃ x, k = μ x ∧ I x ∧ Hd nt esc (Gv x) (Lv x ++ Lf) (Rv x ++ Rf) s) (μ x0) ⟨x0, rfl, hI, by rw [hG]; exact Hd.mk hL hR⟩ ?_
  rintro k s R' h1 h2 ⟨x, rfl, hx, b, rb, rfl⟩
  exact h x R' (fun x' b' L' rb' RL' g' hi hm hl hr hg => h1 (μ x') _ hm ⟨x', rfl, hi, by rw [hg]; exact Hd.mk hl hr⟩) h2 hx b rb
theorem xc_loop {σ : Type} {body : Code} (Lf : List (Nat × V)) (Rf : List (Nat × (Nat × List V))) (Lv : σ → List (Nat × V)) (I : σ → Prop) (μ : σ → Nat) (x0 : σ)
    (hL : subL (Lv x0 ++ Lf) L) (hR : subR Rf R) (hI : I x0)
    (h : ∀ (x : σ) (R' : X → St → Prop), (∀ x' b' L' rb' RL', I x' → μ x' < μ x → subL (Lv x' ++ Lf) L' → subR Rf RL' → R' .normal (Sx nt b' L' rb' RL' esc g)) →
      (∀ e s', e ≠ .normal → Go' E Q ks e s' → R' e s') → I x → ∀ b rb, Wc E R' body [] (Sx nt b (Lv x ++ Lf) rb Rf esc g)) : Wc E Q (.loop body) ks (Sx nt b L rb R esc g) := by
  refine wc_loop (fun k s => ∃ x, k = μ x ∧ I x ∧ Hd nt esc g (Lv x ++ Lf) Rf s) (μ x0) ⟨x0, rfl, hI, Hd.mk hL hR⟩ ?_
  rintro k s R' h1 h2 ⟨x, rfl, hx, b, rb, rfl⟩
  exact h x R' (fun x' b' L' rb' RL' hi hm hl hr => h1 (μ x') _ hm ⟨x', rfl, hi, Hd.mk hl hr⟩) h2 hx b rb
theorem x_end1 {e : X} {t : Nat} {v w r : V} {rs : List ResultVar} {g0 : G} (he : e = .normal ∨ e = .ret) (hrs : rs = [.tmp t]) (hv : getL L t = some v) (h1 : (cellsOf v).all one = true) (hs : sealV g v = some w) (hwo : g.wo = g0.wo) (hwt : g.wt = g0.wt) (hr : w = r) :
    (e = .normal ∨ e = .ret) ∧ ∃ vs ws, resOf E (Sx nt b L rb R esc g) rs = some vs ∧ sealL (Sx nt b L rb R esc g).g vs = some ws ∧ (Sx nt b L rb R esc g).g.wo = g0.wo ∧ (Sx nt b L rb R esc g).g.wt = g0.wt ∧ pack ws = r := by
  subst hrs
  refine ⟨he, [v], [w], ?_, ?_, hwo, hwt, hr⟩
  · have : (Sx nt b L rb R esc g).tm t = v := getL_of hv
    simp only [resOf, this, h1, if_true]
  · show sealL g [v] = some [w]
    simp only [sealL, hs]
theorem x_callD {qt : Bool} {ops : Array Oper} {l : List Oper} {K : St → Prop} {d : Nat} {ty : TypeId} {pos : String} {after : Array Edge} {gd : Option (Nat × Bool)} {fx : Operand} {fn : FuncId} {caps : List V} {args : Array Operand} {ats : Array TypeId} {vs : List V} {r : V}
    (h : wX ops nt L gd = some true) (hd : Nat.blt d nt = true) (hfx : evX E L fx = some (.fn (.func fn) caps)) (ha : evXs E L args.toList = some vs) (ho : (vs.flatMap cellsOf).all one = true) (hf : okFn E fn = true) (hp : CallsAt E g fn (vs ++ caps) r g)
    (k : wpL E qt ops l (Sx nt b ((d, r) :: L) rb R esc g) K) : wpL E qt ops (⟨some d, .call { callee := .value fx, args := args, argTypes := ats }, ty, pos, after, gd⟩ :: l) (Sx nt b L rb R esc g) K := by
  unfold Sx at *
  unfold wpL
  rw [wants_of (s := St.mk nt (ofL b L) (ofR rb R) esc g) (wX_ok h)]
  simp only
  unfold opW callOf
  simp only
  rw [evX_ok hfx, evXs_ok ha]
  simp only [ho, hf, Bool.and_self, if_true]
  refine ⟨r, g, hp, fun _ => rfl, ?_⟩
  rw [putW_some, ofL_upd]
  exact ⟨blt hd, k⟩
theorem veq {a b : Bool} (h : a = true ↔ b = true) : V.p (.bool a) = V.p (.bool b) := by rw [Bool.eq_iff_iff.2 h]
theorem ieq {a b : Int} (h : a = b) : V.p (.int .i64 a) = V.p (.int .i64 b) := by rw [h]
theorem xc_regCut {id : Nat} {ops : Array Oper} (Lf : List (Nat × V)) (Rk : List (Nat × (Nat × List V))) (Lw : List (Nat × V)) (_hL : subL Lf L) (_hR : subR Rk R)
    (h1 : ∀ K : St → Prop, (∀ b' L' rb' R', subL (Lw ++ Lf) L' → subR Rk R' → K (Sx nt b' L' rb' R' esc g)) → wpL E false ops ops.toList (Sx nt b L rb R esc g) K)
    (h2 : ∀ b rb, Go' E Q ks .normal (Sx nt b (Lw ++ Lf) rb Rk esc g)) : Wc E Q (.region id ops false) ks (Sx nt b L rb R esc g) := by
  refine wc_reg fun K hK => h1 K fun b' L' rb' R' hl hr => ?_
  obtain ⟨b2, rb2, e⟩ := Hd.mk (nt := nt) (b := b') (rb := rb') (esc := esc) (g := g) hl hr
  rw [e]
  exact hK _ (h2 b2 rb2)
theorem xc_drwCut {id : Nat} {ops : Array Oper} (lo : List Nat) (hm : E.P.follows .mixedOrders = true)
    (ho : (tabOk ops (aheads ops) && Nat.ble lo.length ops.size && ordOk (fun _ => true) esc ops (aheads ops) 0 lo && lo.all (fun i => Nat.blt i ops.size)) = true) (Lf : List (Nat × V)) (Rk : List (Nat × (Nat × List V))) (Lw : List (Nat × V)) (_hL : subL Lf L) (_hR : subR Rk R)
    (h1 : ∀ K : St → Prop, (∀ b' L' rb' R', subL (Lw ++ Lf) L' → subR Rk R' → K (Sx nt b' L' rb' R' esc g)) → wpL E true ops (lo.filterMap (ops[·]?)) (Sx nt b L rb R esc g) K)
    (h2 : ∀ b rb, Go' E Q ks .normal (Sx nt b (Lw ++ Lf) rb Rk esc g)) : Wc E Q (.region id ops true) ks (Sx nt b L rb R esc g) := by
  refine xc_drw lo hm ho fun K hK => h1 K fun b' L' rb' R' hl hr => ?_
  obtain ⟨b2, rb2, e⟩ := Hd.mk (nt := nt) (b := b') (rb := rb') (esc := esc) (g := g) hl hr
  rw [e]
  exact hK _ (h2 b2 rb2)
theorem at_walk {f : FuncId} {fn : Func} {body : Code} {args : List V} {r : V} {g0 : G} (L : List (Nat × V)) (hf : E.P.funcs[f]? = some fn) (hb : fn.body = some body) (ha : Nat.ble args.length fn.ntmps = true)
    (hL : L = (List.range args.length).map fun i => (i, args.getD i .undef))
    (h : ∀ g, g.objs = g0.objs → g.toks = g0.toks → g.wo = g.objs.length → g.wt = g.toks.length → Wc E (fun e s' => (e = .normal ∨ e = .ret) ∧ ∃ vs ws, resOf E s' fn.results.toList = some vs ∧ sealL s'.g vs = some ws ∧ s'.g.wo = g.wo ∧ s'.g.wt = g.wt ∧ pack ws = r) body []
      (Sx fn.ntmps (fun _ => .undef) L (fun _ => none) [] (E.esc f) g)) : CallsAt E g0 f args r g0 := by
  have hw := h { g0 with wo := g0.objs.length, wt := g0.toks.length } rfl rfl rfl rfl
  unfold Sx at hw
  have e : ofL (fun _ => .undef) L = (fun t => args.getD t .undef) := by funext t; rw [hL, args_of]
  rw [e] at hw
  refine .fnClean _ hf hb (Nat.le_of_ble_eq_true ha) hw fun e s' hq => ?_
  obtain ⟨h1, vs, ws, h2, h3, h4, h5, h6⟩ := hq
  exact ⟨h1, vs, ws, h2, h3, h4, h5, h6, rfl⟩
theorem ho_nil : (([] : List V).flatMap cellsOf).all one = true := rfl
theorem ho_cons {v : V} {vs : List V} (h : (cellsOf v).all one = true) (k : (vs.flatMap cellsOf).all one = true) : ((v :: vs).flatMap cellsOf).all one = true := by
  rw [List.flatMap_cons, List.all_append, h, k]; rfl
theorem rd_ho {α : Type} {f : α → List PV} {v : V} {xs : List α} (h : Rd f v xs) : (cellsOf v).all one = true := by
  obtain ⟨h1, h2⟩ := h.one
  rw [h2]; simp [h1]
end
end Go.Vm
namespace Go.Vm
open Go
def lowB (c : UInt8) : Bool := (97 ≤ c.toNat && c.toNat ≤ 122) || c.toNat == 95
def digB (c : UInt8) : Bool := 48 ≤ c.toNat && c.toNat ≤ 57
def inNameB (c : UInt8) : Bool := lowB c || digB c
def strLt (a b : ByteArray) : Bool := Op.bytesLess a.toList b.toList
def risI : List Int → Bool
  | a :: b :: l => decide (a < b) && risI (b :: l)
  | _ => true
def risS : List ByteArray → Bool
  | a :: b :: l => strLt a b && risS (b :: l)
  | _ => true
theorem risI_iff (l : List Int) : risI l = true ↔ ∀ j, j + 1 < l.length → l.getD j 0 < l.getD (j + 1) 0 := by
  induction l with
  | nil => simp [risI]
  | cons a l ih =>
    cases l with
    | nil => simp [risI]
    | cons b l =>
      simp only [risI, Bool.and_eq_true, decide_eq_true_eq, ih]
      constructor
      · rintro ⟨h1, h2⟩ j hj
        cases j with
        | zero => simpa using h1
        | succ j => simpa using h2 j (by simpa using hj)
      · intro h
        exact ⟨by simpa using h 0 (by simp), fun j hj => by simpa using h (j + 1) (by simpa using hj)⟩
theorem risS_iff (l : List ByteArray) : risS l = true ↔ ∀ j, j + 1 < l.length → strLt (l.getD j default) (l.getD (j + 1) default) = true := by
  induction l with
  | nil => simp [risS]
  | cons a l ih =>
    cases l with
    | nil => simp [risS]
    | cons b l =>
      simp only [risS, Bool.and_eq_true, ih]
      constructor
      · rintro ⟨h1, h2⟩ j hj
        cases j with
        | zero => simpa using h1
        | succ j => simpa using h2 j (by simpa using hj)
      · intro h
        exact ⟨by simpa using h 0 (by simp), fun j hj => by simpa using h (j + 1) (by simpa using hj)⟩
def runN (p : UInt8 → Bool) : List UInt8 → Nat
  | [] => 0
  | c :: l => if p c then runN p l + 1 else 0
theorem runN_le (p : UInt8 → Bool) (l : List UInt8) : runN p l ≤ l.length := by
  induction l with
  | nil => simp [runN]
  | cons c l ih => simp only [runN]; split <;> simp <;> omega
theorem runN_eq (p : UInt8 → Bool) (l : List UInt8) (j : Nat) (h : ∀ i, i < j → ∃ c, l[i]? = some c ∧ p c = true) (h2 : ∀ c, l[j]? = some c → p c = false) : runN p l = j := by
  induction l generalizing j with
  | nil =>
    cases j with
    | zero => rfl
    | succ j => obtain ⟨c, hc, _⟩ := h 0 (by omega); simp at hc
  | cons c l ih =>
    cases j with
    | zero => have := h2 c (by simp); simp [runN, this]
    | succ j =>
      obtain ⟨c', hc, hp⟩ := h 0 (by omega)
      simp at hc; subst hc
      simp only [runN, hp, if_true]
      rw [ih j (fun i hi => by simpa using h (i + 1) (by omega)) (fun c hc => h2 c (by simpa using hc))]
theorem risI_no {l : List Int} {j : Nat} (h : j + 1 < l.length) (h1 : l[j + 1] ≤ l[j]) : risI l = false := by
  cases hr : risI l with
  | false => rfl
  | true =>
    have := (risI_iff l).1 hr j h
    simp [List.getD_eq_getElem?_getD, h, show j < l.length by omega] at this
    omega
theorem risI_up {l : List Int} {j : Nat} (hr : ∀ i, i < j → l.getD i 0 < l.getD (i + 1) 0) (h : j + 1 < l.length) (h1 : l[j] < l[j + 1]) : ∀ i, i < j + 1 → l.getD i 0 < l.getD (i + 1) 0 := by
  intro i hi
  by_cases e : i = j
  · subst e; simp [List.getD_eq_getElem?_getD, h, show i < l.length by omega]; exact h1
  · exact hr i (by omega)
theorem risS_no {l : List ByteArray} {j : Nat} (h : j + 1 < l.length) (h1 : strLt l[j] l[j + 1] = false) : risS l = false := by
  cases hr : risS l with
  | false => rfl
  | true =>
    have := (risS_iff l).1 hr j h
    simp [List.getD_eq_getElem?_getD, h, show j < l.length by omega, h1] at this
theorem risS_up {l : List ByteArray} {j : Nat} (hr : ∀ i, i < j → strLt (l.getD i default) (l.getD (i + 1) default) = true) (h : j + 1 < l.length) (h1 : strLt l[j] l[j + 1] = true) : ∀ i, i < j + 1 → strLt (l.getD i default) (l.getD (i + 1) default) = true := by
  intro i hi
  by_cases e : i = j
  · subst e; simp [List.getD_eq_getElem?_getD, h, show i < l.length by omega]; exact h1
  · exact hr i (by omega)
theorem runN_up {s : ByteArray} {p : UInt8 → Bool} {j : Nat} (hr : ∀ i, i < j → ∃ c, s.data.toList[i]? = some c ∧ p c = true) {c : UInt8} (h : s.data.toList[j]? = some c) (h1 : p c = true) : ∀ i, i < j + 1 → ∃ c, s.data.toList[i]? = some c ∧ p c = true := by
  intro i hi
  by_cases e : i = j
  · subst e; exact ⟨c, h, h1⟩
  · exact hr i (by omega)
theorem str_at {s : ByteArray} {j : Nat} (h : j < s.size) : s[((j : Nat) : Int).toNat]? = some s[j] ∧ s.data.toList[j]? = some s[j] := by
  constructor
  · simp [h]
  · have : j < s.data.toList.length := by simpa using h
    rw [List.getElem?_eq_getElem this]
    rfl
end Go.Vm
set_option linter.unusedVariables false
namespace Go.Vm
open Go
inductive Dp : V → PV → Prop where
  | p {x} : Dp (.p x) x
  | sl {rows : List (List V)} {ps : List (List PV)} {k : SK} : rows.length = ps.length → (∀ (i : Nat) (r : List V) (q : List PV), rows[i]? = some r → ps[i]? = some q → r.length = q.length) →
      (∀ (i j : Nat) (r : List V) (q : List PV) (x : V) (y : PV), rows[i]? = some r → ps[i]? = some q → r[j]? = some x → q[j]? = some y → Dp x y) → Dp (.sl rows k) (.sl ps)
theorem Dp.rep {v : Vw} {x : V} {z : PV} (h : Dp x z) : ∀ {y : Value}, RepC v x y → RepP v.sg z y := by
  induction h with
  | p => intro y r; cases r; assumption
  | @sl rows ps k hl hr hd ih =>
    intro y r
    cases r with
    | @sl _ a cap n _ f cs h1 h2 h3 h4 h5 h6 h7 h8 =>
      have row : ∀ (i : Nat) (q : List PV), ps[i]? = some q → ∃ r, rows[i]? = some r ∧ r.length = q.length := by
        intro i q hq
        have hi : i < rows.length := by rw [hl]; exact (List.getElem?_eq_some_iff.1 hq).1
        exact ⟨_, List.getElem?_eq_getElem hi, hr i _ q (List.getElem?_eq_getElem hi) hq⟩
      have cell : ∀ (i j : Nat) (q : List PV) (y : PV), ps[i]? = some q → q[j]? = some y → ∃ r x, rows[i]? = some r ∧ r[j]? = some x := by
        intro i j q y hq hy
        obtain ⟨r, e1, e2⟩ := row i q hq
        have hj : j < r.length := by rw [e2]; exact (List.getElem?_eq_some_iff.1 hy).1
        exact ⟨r, _, e1, List.getElem?_eq_getElem hj⟩
      rw [hl]
      refine RepP.sl (n := n) f cs (fun _ => h1) (by omega) (fun q hq => ?_) (fun hne => h4 (fun e => hne ?_)) (fun i j q y hq hy => ?_) (fun i j q y hq hy => ?_)
      · obtain ⟨i, hi⟩ := List.mem_iff_getElem?.1 hq
        obtain ⟨r, e1, e2⟩ := row i q hi
        rw [← e2]; exact h3 r (List.mem_of_getElem? e1)
      · rw [e] at hl; exact List.eq_nil_of_length_eq_zero hl.symm
      · obtain ⟨r, x, e1, e2⟩ := cell i j q y hq hy
        exact h5 i j r x e1 e2
      · obtain ⟨r, x, e1, e2⟩ := cell i j q y hq hy
        exact ih i j r q x y e1 hq e2 hy (h6 i j r x e1 e2)
inductive DpL : List V → List PV → Prop where
  | nil : DpL [] []
  | cons {x z xs zs} : Dp x z → DpL xs zs → DpL (x :: xs) (z :: zs)
inductive DpR : List (List V) → List (List PV) → Prop where
  | nil : DpR [] []
  | cons {x z xs zs} : DpL x z → DpR xs zs → DpR (x :: xs) (z :: zs)
theorem DpL.len {xs : List V} {zs : List PV} (h : DpL xs zs) : xs.length = zs.length := by
  induction h with
  | nil => rfl
  | cons _ _ ih => simp [ih]
theorem DpL.get {xs : List V} {zs : List PV} (h : DpL xs zs) : ∀ (i : Nat) (x : V) (z : PV), xs[i]? = some x → zs[i]? = some z → Dp x z := by
  induction h with
  | nil => intro i x z h; simp at h
  | cons hc _ ih =>
    intro i x z hx hz
    cases i with
    | zero => simp at hx hz; subst hx hz; exact hc
    | succ i => exact ih i x z (by simpa using hx) (by simpa using hz)
theorem DpR.len {xs : List (List V)} {zs : List (List PV)} (h : DpR xs zs) : xs.length = zs.length := by
  induction h with
  | nil => rfl
  | cons _ _ ih => simp [ih]
theorem DpR.get {xs : List (List V)} {zs : List (List PV)} (h : DpR xs zs) : ∀ (i : Nat) (x : List V) (z : List PV), xs[i]? = some x → zs[i]? = some z → DpL x z := by
  induction h with
  | nil => intro i x z h; simp at h
  | cons hc _ ih =>
    intro i x z hx hz
    cases i with
    | zero => simp at hx hz; subst hx hz; exact hc
    | succ i => exact ih i x z (by simpa using hx) (by simpa using hz)
theorem DpR.dp {rows : List (List V)} {ps : List (List PV)} {k : SK} (h : DpR rows ps) : Dp (.sl rows k) (.sl ps) :=
  .sl h.len (fun i r q hr hq => (h.get i r q hr hq).len) (fun i j r q x y hr hq hx hy => (h.get i r q hr hq).get j x y hx hy)
theorem DpL.same (l : List PV) : DpL (l.map .p) l := by
  induction l with
  | nil => exact .nil
  | cons x l ih => exact .cons .p ih
theorem DpR.same {α : Type} {f : α → List PV} (xs : List α) : DpR (xs.map fun a => (f a).map .p) (xs.map f) := by
  induction xs with
  | nil => exact .nil
  | cons x l ih => exact .cons (.same _) ih
theorem DpR.app {a c : List (List V)} {p q : List (List PV)} (h : DpR a p) (k : DpR c q) : DpR (a ++ c) (p ++ q) := by
  induction h with
  | nil => exact k
  | cons hc _ ih => exact .cons hc ih
inductive FzC : V → V → Prop where
  | same {x} : FzC x x
  | sealed {x : V} {z : PV} : Dp x z → FzC x (.p z)
inductive FzL : List V → List V → Prop where
  | nil : FzL [] []
  | cons {x z xs zs} : FzC x z → FzL xs zs → FzL (x :: xs) (z :: zs)
inductive FzV : V → V → Prop where
  | c {x z} : FzC x z → FzV x z
  | agg {xs zs} : FzL xs zs → FzV (.agg xs) (.agg zs)
inductive FzA : List V → List V → Prop where
  | nil : FzA [] []
  | cons {x z xs zs} : FzV x z → FzA xs zs → FzA (x :: xs) (z :: zs)
theorem FzL.len {xs zs : List V} (h : FzL xs zs) : xs.length = zs.length := by
  induction h with
  | nil => rfl
  | cons _ _ ih => simp [ih]
theorem FzA.len {xs zs : List V} (h : FzA xs zs) : xs.length = zs.length := by
  induction h with
  | nil => rfl
  | cons _ _ ih => simp [ih]
theorem FzC.rep {v : Vw} {x z : V} {y : Value} (h : FzC x z) (r : RepC v x y) : RepC v z y := by
  cases h with
  | same => exact r
  | sealed e => exact .p (e.rep r)
theorem FzL.rep {v : Vw} {xs zs : List V} (h : FzL xs zs) : ∀ (i : Nat) (z : V) (y : Value) (ys : List Value), (∀ (i : Nat) (x : V) (y : Value), xs[i]? = some x → ys[i]? = some y → RepC v x y) → zs[i]? = some z → ys[i]? = some y → RepC v z y := by
  induction h with
  | nil => intro i z y ys _ h; simp at h
  | cons hc _ ih =>
    intro i z y ys hr hz hy
    cases i with
    | zero => simp at hz; subst hz; exact hc.rep (hr 0 _ y rfl hy)
    | succ i =>
      cases ys with
      | nil => simp at hy
      | cons y0 ys => exact ih i z y ys (fun i x y hx hy => hr (i + 1) x y (by simpa using hx) (by simpa using hy)) (by simpa using hz) (by simpa using hy)
theorem FzV.rep {v : Vw} {x z : V} {y : Value} (h : FzV x z) (r : RepA v x y) : RepA v z y := by
  cases h with
  | c h => cases r with
    | cell r => exact .cell (h.rep r)
    | agg r => cases h with
      | same => exact .agg r
      | sealed e => cases e
  | agg h => cases r with
    | cell r => cases r
    | agg r => exact .agg ⟨h.len ▸ r.1, fun i z y hz hy => h.rep i z y _ r.2 hz hy⟩
theorem FzA.rep {v : Vw} {xs zs : List V} {ys : Array Value} (h : FzA xs zs) (r : RepArgs v xs ys) : RepArgs v zs ys := by
  refine ⟨h.len ▸ r.1, ?_⟩
  have key : ∀ (ys : List Value), (∀ (i : Nat) (x : V) (y : Value), xs[i]? = some x → ys[i]? = some y → RepA v x y) → ∀ (i : Nat) (z : V) (y : Value), zs[i]? = some z → ys[i]? = some y → RepA v z y := by
    clear r
    induction h with
    | nil => intro ys _ i z y h; simp at h
    | cons hc _ ih =>
      intro ys hr i z y hz hy
      cases i with
      | zero => simp at hz; subst hz; exact hc.rep (hr 0 _ y rfl hy)
      | succ i =>
        cases ys with
        | nil => simp at hy
        | cons y0 ys => exact ih ys (fun i x y hx hy => hr (i + 1) x y (by simpa using hx) (by simpa using hy)) i z y (by simpa using hz) (by simpa using hy)
  intro i z y hz hy
  exact key ys.toList (fun i x y hx hy => r.2 i x y hx (by simpa using hy)) i z y hz (by simpa using hy)
def fzPrim (E0 : Env) (f : FuncId) (args : List V) (g : G) (Q : V → G → Prop) : Prop := ∃ zs, FzA args zs ∧ Sound E0 (.call f zs g Q)
theorem WR.cast {E E' : Env} (hg : E.glob = E'.glob) {v : Vw} {g : G} {w : World} (h : WR E v g w) : WR E' v g w :=
  ⟨h.sg, h.nobj, h.toks, h.obj, h.inj, h.osz, h.osg, h.tk, h.tinj, fun gid row e => h.glob gid row (by rw [hg]; exact e)⟩
theorem Sound.cast {E E' : Env} (hP : E.P = E'.P) (hg : E.glob = E'.glob) {f : FuncId} {args : List V} {g : G} {Q : V → G → Prop} (h : Sound E (.call f args g Q)) : Sound E' (.call f args g Q) := by
  intro v w ys W h1 h2 ha
  rw [← hP]
  refine (h v w ys (W.cast hg.symm) h1 h2 ha).mono ?_
  rintro e w' ⟨r, y, v', g', e1, e2, e3, e4, e5, e6⟩
  exact ⟨r, y, v', g', e1, e2, e3.cast hg, e4, e5, e6⟩
theorem fzPrim_ok {E E0 : Env} (hP : E0.P = E.P) (hg : E0.glob = E.glob) (hp : E.prim = fzPrim E0) : PrimOk E := by
  intro f args g Q h
  rw [hp] at h
  obtain ⟨zs, hz, hs⟩ := h
  exact (fun v w ys W h1 h2 ha => (hs.cast hP hg) v w ys W h1 h2 (hz.rep ha))
theorem fzPrim_mono {E E0 : Env} (hp : E.prim = fzPrim E0) : PrimMono E := by
  intro f args g Q Q' hq h
  rw [hp] at h ⊢
  obtain ⟨zs, hz, hs⟩ := h
  refine ⟨zs, hz, fun v w ys W h1 h2 ha => (hs v w ys W h1 h2 ha).mono ?_⟩
  rintro e w' ⟨r, y, v', g', e1, e2, e3, e4, e5, e6⟩
  exact ⟨r, y, v', g', e1, hq _ _ e2, e3, e4, e5, e6⟩
theorem Ev.frz {E E0 : Env} (hP : E0.P = E.P) (hg : E0.glob = E.glob) (hp : E.prim = fzPrim E0) {f : FuncId} {args zs : List V} {g : G} {Q : V → G → Prop} (hz : FzA args zs) (h : Ev E (.call f zs g Q)) : Ev E (.call f args g Q) := by
  refine .prim ?_
  rw [hp]
  exact ⟨zs, hz, (sound (fzPrim_ok hP hg hp) h).cast hP.symm hg.symm⟩
end Go.Vm
set_option linter.unusedVariables false
namespace Go.Vm
open Go
def escTab : List (Nat × List Nat) := [(7, [5, 7, 129, 130]), (12, [19, 56]), (20, [150, 151, 161, 162]), (21, [40, 41]), (22, [17, 18]), (26, [23, 74, 75]), (29, [37, 120, 121]), (32, [12]), (35, [38]), (57, [15]), (68, [31, 34]), (80, [36, 44, 56, 57]), (87, [7]), (88, [9]), (104, [9]), (105, [11]), (129, [5]), (134, [1]), (135, [15]), (148, [3]), (155, [12]), (158, [2]), (189, [1]), (207, [7]), (208, [9])]
def memN : List Nat → Nat → Bool
  | [], _ => false
  | a :: l, n => Nat.beq a n || memN l n
def lookN {α : Type} : List (Nat × α) → Nat → Option α
  | [], _ => none
  | (a, x) :: l, n => bif Nat.beq a n then some x else lookN l n
def escOf (f : FuncId) (d : Nat) : Bool := match lookN escTab f with
  | some l => memN l d
  | none => false
def globTab : List (Nat × List V) := [(2, [.p (.int .u8 0), .p (.int .u8 1), .p (.int .u8 28), .p (.int .u8 2), .p (.int .u8 29), .p (.int .u8 14), .p (.int .u8 24), .p (.int .u8 3), .p (.int .u8 30), .p (.int .u8 22), .p (.int .u8 20), .p (.int .u8 15), .p (.int .u8 25), .p (.int .u8 17), .p (.int .u8 4), .p (.int .u8 8), .p (.int .u8 31), .p (.int .u8 27), .p (.int .u8 13), .p (.int .u8 23), .p (.int .u8 21), .p (.int .u8 19), .p (.int .u8 16), .p (.int .u8 7), .p (.int .u8 26), .p (.int .u8 12), .p (.int .u8 18), .p (.int .u8 6), .p (.int .u8 11), .p (.int .u8 5), .p (.int .u8 10), .p (.int .u8 9)]), (3, [.p (.int .u8 0), .p (.int .u8 1), .p (.int .u8 56), .p (.int .u8 2), .p (.int .u8 57), .p (.int .u8 49), .p (.int .u8 28), .p (.int .u8 3), .p (.int .u8 61), .p (.int .u8 58), .p (.int .u8 42), .p (.int .u8 50), .p (.int .u8 38), .p (.int .u8 29), .p (.int .u8 17), .p (.int .u8 4), .p (.int .u8 62), .p (.int .u8 47), .p (.int .u8 59), .p (.int .u8 36), .p (.int .u8 45), .p (.int .u8 43), .p (.int .u8 51), .p (.int .u8 22), .p (.int .u8 53), .p (.int .u8 39), .p (.int .u8 33), .p (.int .u8 30), .p (.int .u8 24), .p (.int .u8 18), .p (.int .u8 12), .p (.int .u8 5), .p (.int .u8 63), .p (.int .u8 55), .p (.int .u8 48), .p (.int .u8 27), .p (.int .u8 60), .p (.int .u8 41), .p (.int .u8 37), .p (.int .u8 16), .p (.int .u8 46), .p (.int .u8 35), .p (.int .u8 44), .p (.int .u8 21), .p (.int .u8 52), .p (.int .u8 32), .p (.int .u8 23), .p (.int .u8 11), .p (.int .u8 54), .p (.int .u8 26), .p (.int .u8 40), .p (.int .u8 15), .p (.int .u8 34), .p (.int .u8 20), .p (.int .u8 31), .p (.int .u8 10), .p (.int .u8 25), .p (.int .u8 14), .p (.int .u8 19), .p (.int .u8 9), .p (.int .u8 13), .p (.int .u8 8), .p (.int .u8 7), .p (.int .u8 6)]), (0, [.p (.int .u64 1), .p (.int .u64 10), .p (.int .u64 100), .p (.int .u64 1000), .p (.int .u64 10000), .p (.int .u64 100000), .p (.int .u64 1000000), .p (.int .u64 10000000), .p (.int .u64 100000000), .p (.int .u64 1000000000), .p (.int .u64 10000000000), .p (.int .u64 100000000000), .p (.int .u64 1000000000000), .p (.int .u64 10000000000000), .p (.int .u64 100000000000000), .p (.int .u64 1000000000000000), .p (.int .u64 10000000000000000), .p (.int .u64 100000000000000000), .p (.int .u64 1000000000000000000), .p (.int .u64 10000000000000000000)])]
noncomputable def En0 : Env := { P := Go.Proofs.Tryz.prog, glob := lookN globTab, esc := escOf, prim := fun _ _ _ _ => False }
noncomputable def En : Env := { P := Go.Proofs.Tryz.prog, glob := lookN globTab, esc := escOf, prim := fzPrim En0 }
theorem En_ok : PrimOk En := fzPrim_ok (E := En) (E0 := En0) rfl rfl rfl
theorem En_mono : PrimMono En := fzPrim_mono (E := En) (E0 := En0) rfl
theorem frz {f : FuncId} {args zs : List V} {g : G} {Q : V → G → Prop} (hz : FzA args zs) (h : Ev En (.call f zs g Q)) : Ev En (.call f args g Q) := Ev.frz (E := En) (E0 := En0) rfl rfl rfl hz h
noncomputable def Cn : Cfg := { E := En, cleans := fun f => !memN [32, 33, 34, 35, 60, 61, 79, 84, 97, 123] f, keeps := fun f => memN [79] f }
end Go.Vm
