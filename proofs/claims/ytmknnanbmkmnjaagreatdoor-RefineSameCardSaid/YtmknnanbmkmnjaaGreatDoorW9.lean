/- Part 9 of the texts that the claim leans on: a judgement on the program over plain values, its soundness, and contracts of functions. -/
import Derived.Test.YtmknnanbmkmnjaaGreatDoorW8
import Derived.Laws.Strings
set_option linter.unusedVariables false
set_option linter.unusedSimpArgs false
set_option linter.unusedVariables false
namespace Go.Vm
open Go
section
variable (E : Env) (qt : Bool)
def opW (s : St) (o : Oper) (k : V → St → Prop) : Prop :=
 match callOf E s o with
 | some (f, args) => ∃ r g2, CallsAt E s.g f args r g2 ∧ (qt = true → g2 = s.g) ∧ k r { s with g := g2 }
 | none => match stepV E s o with
  | none => False
  | some (v, s1) => k v s1
def putW (dst : Option Tmp) (v : V) (s : St) (k : St → Prop) : Prop :=
 match s.put dst v with
 | none => False
 | some s' => k s'
def wpL (ops : Array Oper) : List Oper → St → (St → Prop) → Prop
 | [], s, K => K s
 | o :: l, s, K => match wants ops s o with
  | none => False
  | some false => putW o.dst .undef s fun s' => wpL ops l s' K
  | some true => opW E qt s o fun v s1 => putW o.dst v s1 fun s' => wpL ops l s' K
end
section
variable {E : Env} {qt : Bool}
theorem wpL_wpO {ops : Array Oper} {K : St → Prop} : ∀ (l : List Nat) (s : St), (∀ i, i ∈ l → i < ops.size) → wpL E qt ops (l.filterMap (ops[·]?)) s K → wpO E qt ops l s K := by
 intro l
 induction l with
 | nil => intro s _ h; exact h
 | cons i l ih =>
  intro s hl h
  have hi := hl i (by simp)
  have ho : ops[i]? = some ops[i] := by simp [hi]
  have hl' : ∀ j, j ∈ l → j < ops.size := fun j hj => hl j (List.mem_cons_of_mem _ hj)
  simp only [List.filterMap_cons, ho] at h
  unfold wpL at h
  unfold wpO
  rw [ho]
  simp only
  split at h
  ·cases h
  ·rename_i hw
   rw [hw]
   simp only
   unfold putW at h
   split at h
   ·cases h
   ·rename_i s' hp; rw [hp]; exact ih s' hl' h
  ·rename_i hw
   rw [hw]
   simp only
   unfold opW at h
   split at h
   ·rename_i f args hc
    rw [hc]
    simp only
    obtain ⟨r, g2, hr, hg2, h⟩ := h
    refine ⟨r, g2, hr, hg2, ?_⟩
    unfold putW at h
    split at h
    ·cases h
    ·rename_i s' hp; rw [hp]; exact ih s' hl' h
   ·rename_i hc
    rw [hc]
    simp only
    split at h
    ·cases h
    ·rename_i v s1 hs
     rw [hs]
     simp only
     unfold putW at h
     split at h
     ·cases h
     ·rename_i s' hp; rw [hp]; exact ih s' hl' h
theorem filterMap_range (ops : Array Oper) : (List.range ops.size).filterMap (ops[·]?) = ops.toList := by
 apply List.ext_getElem?
 intro i
 have : ∀ (l : List Oper), (List.range l.length).filterMap (l[·]?) = l := by
  intro l
  induction l with
  | nil => rfl
  | cons x l ih =>
   rw [List.length_cons, List.range_succ_eq_map, List.filterMap_cons]
   simp only [List.getElem?_cons_zero, List.filterMap_map]
   congr 1
 have h2 := this ops.toList
 simp only [Array.length_toList, Array.getElem?_toList] at h2
 rw [h2]
theorem wc_reg {Q : X → St → Prop} {ks : List Ko} {s : St} {id : Nat} {ops : Array Oper} (h : ∀ K : St → Prop, (∀ s', Go' E Q ks .normal s' → K s') → wpL E false ops ops.toList s K) : Wc E Q (.region id ops false) ks s :=
 wc_region fun K hK => wpL_wpO _ _ (fun i hi => List.mem_range.1 hi) (by rw [filterMap_range]; exact h K hK)
theorem wc_drw {Q : X → St → Prop} {ks : List Ko} {s : St} {id : Nat} {ops : Array Oper} (l : List Nat) (esc : Nat → Bool) (hm : E.P.follows .mixedOrders = true)
  (ho : (tabOk ops (aheads ops) && Nat.ble l.length ops.size && ordOk (fun _ => true) esc ops (aheads ops) 0 l && l.all (fun i => Nat.blt i ops.size)) = true) (he : s.esc = esc)
  (h : ∀ K : St → Prop, (∀ s', Go' E Q ks .normal s' → K s') → wpL E true ops (l.filterMap (ops[·]?)) s K) : Wc E Q (.region id ops true) ks s := by
 rw [Bool.and_eq_true] at ho
 exact wc_drawn l esc hm ho.1 he fun K hK => wpL_wpO _ _ (fun i hi => Nat.le_of_ble_eq_true (List.all_eq_true.1 ho.2 i hi)) (h K hK)
variable {nt : Nat} {tm : Nat → V} {rg : Nat → Option (Nat × List V)} {esc : Nat → Bool} {g : G} {s : St}
variable {dst : Option Tmp} {ty : TypeId} {pos : String} {after : Array Edge} {k : V → St → Prop}
theorem putW_some {d : Nat} {v : V} {K : St → Prop} : putW (some d) v (St.mk nt tm rg esc g) K = (d < nt ∧ K (St.mk nt (upd tm d v) rg esc g)) := by
 unfold putW St.put
 by_cases h : d < nt
 ·simp [h]
 ·simp [h]
theorem ev_func {f : FuncId} : St.ev E s (.func f) = some (.fn (.func f) []) := rfl
variable {gd : Option (Nat × Bool)}
theorem opW_call {f : FuncId} {args : Array Operand} {ats : Array TypeId} : opW E qt s ⟨dst, .call { callee := .value (.func f), args := args, argTypes := ats }, ty, pos, after, gd⟩ k =
  (match evL E s args.toList with
  | some vs => (vs.flatMap cellsOf).all one = true ∧ okFn E f = true ∧ ∃ r g2, CallsAt E s.g f vs r g2 ∧ (qt = true → g2 = s.g) ∧ k r { s with g := g2 }
  | none => False) := by
 unfold opW callOf
 simp only [ev_func]
 cases evL E s args.toList with
 | none => rfl
 | some vs =>
  simp only
  by_cases h1 : (vs.flatMap cellsOf).all one = true
  ·by_cases h2 : okFn E f = true
   ·simp [h1, h2]
   ·simp only [h1, h2, Bool.and_false, Bool.false_eq_true, if_false, false_and, and_false, eq_iff_iff, iff_false]
    simp [stepV]
  ·simp only [h1, Bool.false_and, Bool.false_eq_true, if_false, false_and, eq_iff_iff, iff_false]
   simp [stepV]
end
end Go.Vm
set_option linter.unusedVariables false
namespace Go.Vm
open Go
def genOf (x : Option (Nat × List V)) : Nat :=
 match x with
 | some (g, _) => g + 1
 | none => 0
theorem wrap_id {n : Int} (h1 : -9223372036854775808 ≤ n) (h2 : n ≤ 9223372036854775807) : IntKind.wrap .i64 n = n := by
 have key : (if (true && decide (n % (18446744073709551616 : Int) ≥ (9223372036854775808 : Int))) = true then n % (18446744073709551616 : Int) - 18446744073709551616 else n % (18446744073709551616 : Int)) = n := by
  simp only [Bool.true_and, decide_eq_true_eq]
  split <;> omega
 exact key
section
variable {E : Env} {qt : Bool} {ops : Array Oper} {l : List Oper} {K : St → Prop}
variable {nt : Nat} {tm : Nat → V} {rg : Nat → Option (Nat × List V)} {esc : Nat → Bool} {g : G}
variable {d : Nat} {ty : TypeId} {pos : String} {after : Array Edge} {gd : Option (Nat × Bool)} {op : Op}
def Wants (ops : Array Oper) (nt : Nat) (tm : Nat → V) (gd : Option (Nat × Bool)) (w : Bool) : Prop :=
 ∀ (s : St) (dst : Option Tmp) (op : Op) (ty : TypeId) (pos : String) (after : Array Edge), s.nt = nt → s.tm = tm → wants ops s ⟨dst, op, ty, pos, after, gd⟩ = some w
theorem wants_of {s : St} {dst : Option Tmp} {w : Bool} (h : Wants ops s.nt s.tm gd w) : wants ops s ⟨dst, op, ty, pos, after, gd⟩ = some w := h s dst op ty pos after rfl rfl
theorem wpl_skip (h : Wants ops nt tm gd false) (hd : d < nt) (k : wpL E qt ops l (St.mk nt (upd tm d .undef) rg esc g) K) : wpL E qt ops (⟨some d, op, ty, pos, after, gd⟩ :: l) (St.mk nt tm rg esc g) K := by
 unfold wpL
 rw [wants_of (s := St.mk nt tm rg esc g) h]
 simp only [putW_some]
 exact ⟨hd, k⟩
theorem wpl_op {s1 : St} {v : V} (h : Wants ops nt tm gd true) (hd : d < nt) (hc : callOf E (St.mk nt tm rg esc g) ⟨some d, op, ty, pos, after, gd⟩ = none)
  (hs : stepV E (St.mk nt tm rg esc g) ⟨some d, op, ty, pos, after, gd⟩ = some (v, s1)) (k : wpL E qt ops l (St.mk nt (upd tm d v) s1.rg esc s1.g) K) :
  wpL E qt ops (⟨some d, op, ty, pos, after, gd⟩ :: l) (St.mk nt tm rg esc g) K := by
 obtain ⟨h1, h2, h3⟩ := stepV_tm hs
 unfold wpL
 rw [wants_of (s := St.mk nt tm rg esc g) h]
 simp only
 unfold opW
 rw [hc]
 simp only
 rw [hs]
 simp only
 cases s1
 simp only at h1 h2 h3
 subst h1 h2 h3
 rw [putW_some]
 exact ⟨hd, k⟩
theorem wpl_op0 {s1 : St} {v : V} (h : Wants ops nt tm gd true) (hc : callOf E (St.mk nt tm rg esc g) ⟨none, op, ty, pos, after, gd⟩ = none)
  (hs : stepV E (St.mk nt tm rg esc g) ⟨none, op, ty, pos, after, gd⟩ = some (v, s1)) (k : wpL E qt ops l (St.mk nt tm s1.rg esc s1.g) K) :
  wpL E qt ops (⟨none, op, ty, pos, after, gd⟩ :: l) (St.mk nt tm rg esc g) K := by
 obtain ⟨h1, h2, h3⟩ := stepV_tm hs
 unfold wpL
 rw [wants_of (s := St.mk nt tm rg esc g) h]
 simp only
 unfold opW
 rw [hc]
 simp only
 rw [hs]
 simp only
 cases s1
 simp only at h1 h2 h3
 subst h1 h2 h3
 exact k
theorem wpl_move {x : Operand} {v : V} (h : Wants ops nt tm gd true) (hd : d < nt) (hx : St.ev E (St.mk nt tm rg esc g) x = some v) (k : wpL E qt ops l (St.mk nt (upd tm d v) rg esc g) K) :
  wpL E qt ops (⟨some d, .move x, ty, pos, after, gd⟩ :: l) (St.mk nt tm rg esc g) K := wpl_op (s1 := St.mk nt tm rg esc g) h hd rfl (by simp only [stepV, hx]; rfl) k
theorem wpl_assign {x : Operand} {v : V} (h : Wants ops nt tm gd true) (hd : d < nt) (hx : St.ev E (St.mk nt tm rg esc g) x = some v) (k : wpL E qt ops l (St.mk nt (upd tm d v) rg esc g) K) :
  wpL E qt ops (⟨some d, .assign x, ty, pos, after, gd⟩ :: l) (St.mk nt tm rg esc g) K := wpl_op (s1 := St.mk nt tm rg esc g) h hd rfl (by simp only [stepV, hx]; rfl) k
theorem wpl_pickT {c x y : Operand} {v : V} (h : Wants ops nt tm gd true) (hd : d < nt) (hc : St.ev E (St.mk nt tm rg esc g) c = some (.p (.bool true))) (hx : St.ev E (St.mk nt tm rg esc g) x = some v) (k : wpL E qt ops l (St.mk nt (upd tm d v) rg esc g) K) :
  wpL E qt ops (⟨some d, .pick c x y, ty, pos, after, gd⟩ :: l) (St.mk nt tm rg esc g) K := wpl_op (s1 := St.mk nt tm rg esc g) h hd rfl (by simp only [stepV, hc, if_true, hx]; rfl) k
theorem wpl_pickF {c x y : Operand} {v : V} (h : Wants ops nt tm gd true) (hd : d < nt) (hc : St.ev E (St.mk nt tm rg esc g) c = some (.p (.bool false))) (hx : St.ev E (St.mk nt tm rg esc g) y = some v) (k : wpL E qt ops l (St.mk nt (upd tm d v) rg esc g) K) :
  wpL E qt ops (⟨some d, .pick c x y, ty, pos, after, gd⟩ :: l) (St.mk nt tm rg esc g) K := wpl_op (s1 := St.mk nt tm rg esc g) h hd rfl (by simp only [stepV, hc, Bool.false_eq_true, if_false, hx]; rfl) k
theorem wpl_bin {o : BinOp} {t u : TypeId} {x y : Operand} {a b : V} {z : PV} (h : Wants ops nt tm gd true) (hd : d < nt) (hx : St.ev E (St.mk nt tm rg esc g) x = some a) (hy : St.ev E (St.mk nt tm rg esc g) y = some b) (hz : bin E o t a b = some z)
  (k : wpL E qt ops l (St.mk nt (upd tm d (.p z)) rg esc g) K) : wpL E qt ops (⟨some d, .binOp o t x y u, ty, pos, after, gd⟩ :: l) (St.mk nt tm rg esc g) K := wpl_op (s1 := St.mk nt tm rg esc g) h hd rfl (by simp only [stepV, hx, hy, hz]; rfl) k
theorem wpl_add {t u : TypeId} {x y : Operand} {a b : Int} (h : Wants ops nt tm gd true) (hd : d < nt) (hx : St.ev E (St.mk nt tm rg esc g) x = some (.p (.int .i64 a))) (hy : St.ev E (St.mk nt tm rg esc g) y = some (.p (.int .i64 b)))
  (h1 : -9223372036854775808 ≤ a + b) (h2 : a + b ≤ 9223372036854775807)
  (k : wpL E qt ops l (St.mk nt (upd tm d (.p (.int .i64 (a + b)))) rg esc g) K) : wpL E qt ops (⟨some d, .binOp .add t x y u, ty, pos, after, gd⟩ :: l) (St.mk nt tm rg esc g) K := by
 refine wpl_bin (z := .int .i64 (a + b)) h hd hx hy ?_ k
 simp only [bin, ibin, if_true]
 rw [wrap_id h1 h2]
theorem wpl_sub {t u : TypeId} {x y : Operand} {a b : Int} (h : Wants ops nt tm gd true) (hd : d < nt) (hx : St.ev E (St.mk nt tm rg esc g) x = some (.p (.int .i64 a))) (hy : St.ev E (St.mk nt tm rg esc g) y = some (.p (.int .i64 b)))
  (h1 : -9223372036854775808 ≤ a - b) (h2 : a - b ≤ 9223372036854775807)
  (k : wpL E qt ops l (St.mk nt (upd tm d (.p (.int .i64 (a - b)))) rg esc g) K) : wpL E qt ops (⟨some d, .binOp .sub t x y u, ty, pos, after, gd⟩ :: l) (St.mk nt tm rg esc g) K := by
 refine wpl_bin (z := .int .i64 (a - b)) h hd hx hy ?_ k
 simp only [bin, ibin, if_true]
 rw [wrap_id h1 h2]
theorem wpl_not {t : TypeId} {x : Operand} {b : Bool} (h : Wants ops nt tm gd true) (hd : d < nt) (hx : St.ev E (St.mk nt tm rg esc g) x = some (.p (.bool b))) (k : wpL E qt ops l (St.mk nt (upd tm d (.p (.bool (!b)))) rg esc g) K) :
  wpL E qt ops (⟨some d, .unOp .not t x, ty, pos, after, gd⟩ :: l) (St.mk nt tm rg esc g) K := wpl_op (s1 := St.mk nt tm rg esc g) h hd rfl (by simp only [stepV, hx, un]; rfl) k
theorem wpl_load {t : TypeId} {x : Operand} {a v : V} (h : Wants ops nt tm gd true) (hd : d < nt) (hx : St.ev E (St.mk nt tm rg esc g) x = some a) (hl : St.loadV E (St.mk nt tm rg esc g) t a = some v) (k : wpL E qt ops l (St.mk nt (upd tm d v) rg esc g) K) :
  wpL E qt ops (⟨some d, .load t x, ty, pos, after, gd⟩ :: l) (St.mk nt tm rg esc g) K := wpl_op (s1 := St.mk nt tm rg esc g) h hd rfl (by simp only [stepV, hx, hl]; rfl) k
theorem wpl_fieldAddr {t : TypeId} {x : Operand} {f off n : Nat} {ag : Bool} {a v : V} (h : Wants ops nt tm gd true) (hd : d < nt) (hx : St.ev E (St.mk nt tm rg esc g) x = some a) (hf : fieldOf E t f = some (off, n, ag)) (ha : addTo a off = some v)
  (k : wpL E qt ops l (St.mk nt (upd tm d v) rg esc g) K) : wpL E qt ops (⟨some d, .fieldAddr t x f, ty, pos, after, gd⟩ :: l) (St.mk nt tm rg esc g) K := wpl_op (s1 := St.mk nt tm rg esc g) h hd rfl (by simp only [stepV, hx, hf, ha]; rfl) k
theorem wpl_len {x : Operand} {t : TypeId} {td : TypeDesc} {a : V} {n : Nat} (h : Wants ops nt tm gd true) (hd : d < nt) (hx : St.ev E (St.mk nt tm rg esc g) x = some a) (hu : E.P.underlying t = some td) (hn : lenOf (St.mk nt tm rg esc g) td a = some n)
  (k : wpL E qt ops l (St.mk nt (upd tm d (.p (.int .i64 n))) rg esc g) K) : wpL E qt ops (⟨some d, .call { callee := .builtin .len, args := #[x], argTypes := #[t] }, ty, pos, after, gd⟩ :: l) (St.mk nt tm rg esc g) K := by
 refine wpl_op (s1 := St.mk nt tm rg esc g) h hd rfl ?_ k
 have : (#[t] : Array TypeId)[0]? = some t := rfl
 simp only [stepV, evL, hx, this, hu, hn]; rfl
theorem wpl_box {t : TypeId} {x : Operand} {v : V} (h : Wants ops nt tm gd true) (hd : d < nt) (he : esc d = false) (hx : St.ev E (St.mk nt tm rg esc g) x = some v) (ho : (cellsOf v).all one = true)
  (k : wpL E qt ops l (St.mk nt (upd tm d (.loc d (genOf (rg d)) 0)) (upd rg d (some (genOf (rg d), cellsOf v))) esc g) K) :
  wpL E qt ops (⟨some d, .box t x, ty, pos, after, gd⟩ :: l) (St.mk nt tm rg esc g) K := by
 refine wpl_op (s1 := St.mk nt tm (upd rg d (some (genOf (rg d), cellsOf v))) esc g) h hd rfl ?_ k
 simp only [stepV, hx, St.newVar, ho, if_true, he, Bool.false_eq_true, if_false]; rfl
theorem wpl_alloc {t : TypeId} {cs : List V} (h : Wants ops nt tm gd true) (hd : d < nt) (he : esc d = false) (hz : zeroOf E t = some cs) (ho : cs.all one = true)
  (k : wpL E qt ops l (St.mk nt (upd tm d (.loc d (genOf (rg d)) 0)) (upd rg d (some (genOf (rg d), cs))) esc g) K) :
  wpL E qt ops (⟨some d, .alloc t, ty, pos, after, gd⟩ :: l) (St.mk nt tm rg esc g) K := by
 refine wpl_op (s1 := St.mk nt tm (upd rg d (some (genOf (rg d), cs))) esc g) h hd rfl ?_ k
 simp only [stepV, hz, St.newVar, ho, if_true, he, Bool.false_eq_true, if_false]; rfl
theorem wpl_storeL {t : TypeId} {x y : Operand} {i G off n : Nat} {v : V} {cs cs' : List V} (h : Wants ops nt tm gd true) (hx : St.ev E (St.mk nt tm rg esc g) x = some (.loc i G off)) (hy : St.ev E (St.mk nt tm rg esc g) y = some v) (hz : sz E t = some n) (hn : (cellsOf v).length = n)
  (ho : (cellsOf v).all one = true) (hr : rg i = some (G, cs)) (hp : put? cs off (cellsOf v) = some cs') (k : wpL E qt ops l (St.mk nt tm (upd rg i (some (G, cs'))) esc g) K) :
  wpL E qt ops (⟨none, .store t x y, ty, pos, after, gd⟩ :: l) (St.mk nt tm rg esc g) K := by
 refine wpl_op0 (v := .undef) (s1 := St.mk nt tm (upd rg i (some (G, cs'))) esc g) h rfl ?_ k
 simp only [stepV, hx, hy, hz, hn, if_true, St.storeCells, ho, hr, hp]; rfl
theorem wpl_callM {f : FuncId} {args : Array Operand} {ats : Array TypeId} {vs : List V} {r : V} {g2 : G} (h : Wants ops nt tm gd true) (hd : d < nt) (ha : evL E (St.mk nt tm rg esc g) args.toList = some vs) (ho : (vs.flatMap cellsOf).all one = true) (hf : okFn E f = true) (hp : CallsAt E g f vs r g2) (hq : qt = true → g2 = g)
  (k : wpL E qt ops l (St.mk nt (upd tm d r) rg esc g2) K) : wpL E qt ops (⟨some d, .call { callee := .value (.func f), args := args, argTypes := ats }, ty, pos, after, gd⟩ :: l) (St.mk nt tm rg esc g) K := by
 unfold wpL
 rw [wants_of (s := St.mk nt tm rg esc g) h]
 simp only
 rw [opW_call, ha]
 refine ⟨ho, hf, r, g2, hp, hq, ?_⟩
 rw [putW_some]
 exact ⟨hd, k⟩
theorem wpl_call {f : FuncId} {args : Array Operand} {ats : Array TypeId} {vs : List V} {r : V} (h : Wants ops nt tm gd true) (hd : d < nt) (ha : evL E (St.mk nt tm rg esc g) args.toList = some vs) (ho : (vs.flatMap cellsOf).all one = true) (hf : okFn E f = true) (hp : CallsAt E g f vs r g)
  (k : wpL E qt ops l (St.mk nt (upd tm d r) rg esc g) K) : wpL E qt ops (⟨some d, .call { callee := .value (.func f), args := args, argTypes := ats }, ty, pos, after, gd⟩ :: l) (St.mk nt tm rg esc g) K :=
 wpl_callM h hd ha ho hf hp (fun _ => rfl) k
theorem wpl_build {t : TypeId} {ps : Array (Nat × Operand)} {fs : Array Field} {z cs : List V} {vs : List (Nat × V)} {pl : List (Nat × Nat)} (h : Wants ops nt tm gd true) (hd : d < nt) (hu : E.P.underlying t = some (.struct fs)) (hz : zeroOf E t = some z) (hp : St.parts E (St.mk nt tm rg esc g) ps.toList = some vs)
  (hl : placesL E fs.toList = some pl) (hc : fillIn (pl[·]?) z vs = some cs) (k : wpL E qt ops l (St.mk nt (upd tm d (.agg cs)) rg esc g) K) :
  wpL E qt ops (⟨some d, .build t ps, ty, pos, after, gd⟩ :: l) (St.mk nt tm rg esc g) K := wpl_op (s1 := St.mk nt tm rg esc g) h hd rfl (by simp only [stepV, hu, hz, hp, hl, hc]; rfl) k
theorem wpl_buildSlice {t e : TypeId} {n m : Nat} {ps : Array (Nat × Operand)} {z cs : List V} {vs : List (Nat × V)} (h : Wants ops nt tm gd true) (hd : d < nt) (he : esc d = false) (hu : elemOf E t = some e) (hs : sz E e = some n) (hz : zeroOf E e = some z) (hp : St.parts E (St.mk nt tm rg esc g) ps.toList = some vs)
  (hb : (Nat.blt 0 n && Nat.beq z.length n && Nat.ble (m * n) 16777216 && z.all one) = true) (hc : fillIn (fun i => some (i * n, n)) (List.replicate m z).flatten vs = some cs) (k : wpL E qt ops l (St.mk nt (upd tm d (.sl (chunks n m cs) .exact)) rg esc g) K) :
  wpL E qt ops (⟨some d, .buildSlice t m ps, ty, pos, after, gd⟩ :: l) (St.mk nt tm rg esc g) K := by
 simp only [Bool.and_eq_true] at hb
 obtain ⟨⟨⟨b1, b2⟩, b3⟩, b4⟩ := hb
 have b1 : 0 < n := Nat.le_of_ble_eq_true b1
 have b2 := Nat.eq_of_beq_eq_true b2
 have b3 := Nat.le_of_ble_eq_true b3
 refine wpl_op (s1 := St.mk nt tm rg esc g) h hd rfl ?_ k
 simp only [stepV, hu, hs, hz, hp]
 rw [if_neg (by rw [b4]; simp; omega), hc]
 simp [St.big, he]
theorem wpl_extract {x : Operand} {i : Nat} {vs : List V} {v : V} (h : Wants ops nt tm gd true) (hd : d < nt) (hx : St.ev E (St.mk nt tm rg esc g) x = some (.tup vs)) (hv : vs[i]? = some v) (k : wpL E qt ops l (St.mk nt (upd tm d v) rg esc g) K) :
  wpL E qt ops (⟨some d, .extract x i, ty, pos, after, gd⟩ :: l) (St.mk nt tm rg esc g) K := wpl_op (s1 := St.mk nt tm rg esc g) h hd rfl (by simp only [stepV, hx, hv]) k
theorem wpl_slice {t : TypeId} {x : Operand} {lo hi : Option Operand} {a v : V} {L H : Option V} (h : Wants ops nt tm gd true) (hd : d < nt) (hx : St.ev E (St.mk nt tm rg esc g) x = some a) (h1 : optEv E (St.mk nt tm rg esc g) lo = some L) (h2 : optEv E (St.mk nt tm rg esc g) hi = some H)
  (hv : St.slice E (St.mk nt tm rg esc g) t a L H = some v) (k : wpL E qt ops l (St.mk nt (upd tm d v) rg esc g) K) :
  wpL E qt ops (⟨some d, .slice t x lo hi none, ty, pos, after, gd⟩ :: l) (St.mk nt tm rg esc g) K := wpl_op (s1 := St.mk nt tm rg esc g) h hd rfl (by simp only [stepV, hx, h1, h2, hv]; rfl) k
theorem wpl_index {t : TypeId} {x y : Operand} {b : ByteArray} {kk : IntKind} {j : Int} {c : UInt8} (h : Wants ops nt tm gd true) (hd : d < nt) (hx : St.ev E (St.mk nt tm rg esc g) x = some (.p (.str b))) (hy : St.ev E (St.mk nt tm rg esc g) y = some (.p (.int kk j)))
  (hu : E.P.underlying t = some .string) (hj : 0 ≤ j) (hc : b[j.toNat]? = some c) (k : wpL E qt ops l (St.mk nt (upd tm d (.p (.int .u8 c.toNat))) rg esc g) K) :
  wpL E qt ops (⟨some d, .index t x y, ty, pos, after, gd⟩ :: l) (St.mk nt tm rg esc g) K := wpl_op (s1 := St.mk nt tm rg esc g) h hd rfl (by simp only [stepV, hx, hy, hu, hj, if_true, hc]) k
end
end Go.Vm
set_option linter.unusedVariables false
namespace Go.Vm
open Go
structure Sl (α : Type) where
 nil : Bool
 l : List α
 ok : nil = true → l = []
def Sl.enc {α : Type} (f : α → List PV) (x : Sl α) : PV := bif x.nil then .nilsl else .sl (x.l.map f)
def eInt (n : Int) : List PV := [.int .i64 n]
def eStr (s : ByteArray) : List PV := [.str s]
def eBool (b : Bool) : List PV := [.bool b]
section
variable {E : Env} {qt : Bool} {ops : Array Oper} {l : List Oper} {K : St → Prop}
variable {nt : Nat} {tm : Nat → V} {rg : Nat → Option (Nat × List V)} {esc : Nat → Bool} {g : G}
variable {d : Nat} {ty : TypeId} {pos : String} {after : Array Edge} {gd : Option (Nat × Bool)} {op : Op}
variable {α : Type} {f : α → List PV} {x : Sl α}
theorem ldR {t : TypeId} {row : List V} {v : V} {r : List V} {s : St} (hi : isag E t = some false) (hr : row = v :: r) : s.loadV E t (.ref row) = some v := by
 subst hr
 simp [St.loadV, hi, St.loadCells, take?]
theorem ldRA {t : TypeId} {n : Nat} {row r : List V} {s : St} (hi : isag E t = some true) (hz : sz E t = some n) (hr : take? row 0 n = some r) : s.loadV E t (.ref row) = some (.agg r) := by
 simp [St.loadV, hi, hz, St.loadCells, hr]
theorem ldL {t : TypeId} {i G off : Nat} {cs : List V} {v : V} (hi : isag E t = some false) (hr : rg i = some (G, cs)) (hc : take? cs off 1 = some [v]) : St.loadV E (St.mk nt tm rg esc g) t (.loc i G off) = some v := by
 simp [St.loadV, hi, St.loadCells, hr, hc]
theorem ldLA {t : TypeId} {n i G off : Nat} {cs r : List V} (hi : isag E t = some true) (hz : sz E t = some n) (hr : rg i = some (G, cs)) (hc : take? cs off n = some r) : St.loadV E (St.mk nt tm rg esc g) t (.loc i G off) = some (.agg r) := by
 simp [St.loadV, hi, hz, St.loadCells, hr, hc]
inductive Rd (f : α → List PV) : V → List α → Prop where
 | nil : Rd f (.p .nilsl) []
 | p (xs : List α) : Rd f (.p (.sl (xs.map f))) xs
 | sl (xs : List α) (k : SK) : Rd f (.sl (xs.map fun a => (f a).map .p) k) xs
theorem Rd.enc {x : Sl α} : Rd f (.p (x.enc f)) x.l := by
 unfold Sl.enc
 cases h : x.nil with
 | true => rw [x.ok h]; exact .nil
 | false => exact .p _
theorem Rd.one {v : V} {xs : List α} (h : Rd f v xs) : one v = true ∧ cellsOf v = [v] := by cases h <;> exact ⟨rfl, rfl⟩
theorem len_rd {v : V} {xs : List α} (h : Rd f v xs) {e : TypeId} {s : St} : lenOf s (.slice e) v = some xs.length := by
 cases h <;> simp [lenOf]
theorem wpl_lenS {y : Operand} {t e : TypeId} {v : V} {xs : List α} (h : Wants ops nt tm gd true) (hd : d < nt) (hx : St.ev E (St.mk nt tm rg esc g) y = some v) (hr : Rd f v xs) (hu : E.P.underlying t = some (.slice e))
  (k : wpL E qt ops l (St.mk nt (upd tm d (.p (.int .i64 xs.length))) rg esc g) K) : wpL E qt ops (⟨some d, .call { callee := .builtin .len, args := #[y], argTypes := #[t] }, ty, pos, after, gd⟩ :: l) (St.mk nt tm rg esc g) K :=
 wpl_len h hd hx hu (len_rd hr) k
theorem wpl_iaI {t e : TypeId} {n : Nat} {p q : Operand} {i : Int} {a : α} {v : V} {xs : List α} (h : Wants ops nt tm gd true) (hd : d < nt) (hp : St.ev E (St.mk nt tm rg esc g) p = some v) (hr : Rd f v xs) (hq : St.ev E (St.mk nt tm rg esc g) q = some (.p (.int .i64 i)))
  (hu : E.P.underlying t = some (.slice e)) (hz : sz E e = some n) (hn : n ≠ 0) (hi : 0 ≤ i) (ha : xs[i.toNat]? = some a) (hl : (f a).length = n)
  (k : wpL E qt ops l (St.mk nt (upd tm d (.ref ((f a).map .p))) rg esc g) K) : wpL E qt ops (⟨some d, .indexAddr t p q, ty, pos, after, gd⟩ :: l) (St.mk nt tm rg esc g) K := by
 refine wpl_op (s1 := St.mk nt tm rg esc g) h hd rfl ?_ k
 simp only [stepV, hp, hq, hu, hz]
 rw [if_neg (by omega), if_neg hn]
 cases hr with
 | nil => simp at ha
 | p xs => simp only [List.getElem?_map, ha, Option.map_some]; rw [if_pos hl]
 | sl xs k => simp only [List.getElem?_map, ha, Option.map_some]; rw [if_pos (by simp [hl])]
theorem wpl_ia {t e : TypeId} {n : Nat} {p q : Operand} {j : Nat} {a : α} {v : V} {xs : List α} (h : Wants ops nt tm gd true) (hd : d < nt) (hp : St.ev E (St.mk nt tm rg esc g) p = some v) (hr : Rd f v xs) (hq : St.ev E (St.mk nt tm rg esc g) q = some (.p (.int .i64 j)))
  (hu : E.P.underlying t = some (.slice e)) (hz : sz E e = some n) (hn : n ≠ 0) (ha : xs[j]? = some a) (hl : (f a).length = n)
  (k : wpL E qt ops l (St.mk nt (upd tm d (.ref ((f a).map .p))) rg esc g) K) : wpL E qt ops (⟨some d, .indexAddr t p q, ty, pos, after, gd⟩ :: l) (St.mk nt tm rg esc g) K :=
 wpl_iaI h hd hp hr hq hu hz hn (by omega) (by simpa using ha) hl k
end
end Go.Vm
set_option linter.unusedVariables false
namespace Go.Vm
open Go
def getL : List (Nat × V) → Nat → Option V
 | [], _ => none
 | (k, v) :: l, t => bif Nat.beq k t then some v else getL l t
def ofL (b : Nat → V) : List (Nat × V) → Nat → V
 | [], t => b t
 | (k, v) :: l, t => bif Nat.beq k t then v else ofL b l t
def getR : List (Nat × (Nat × List V)) → Nat → Option (Nat × List V)
 | [], _ => none
 | (k, v) :: l, t => bif Nat.beq k t then some v else getR l t
def ofR (b : Nat → Option (Nat × List V)) : List (Nat × (Nat × List V)) → Nat → Option (Nat × List V)
 | [], t => b t
 | (k, v) :: l, t => bif Nat.beq k t then some v else ofR b l t
def Sx (nt : Nat) (b : Nat → V) (L : List (Nat × V)) (rb : Nat → Option (Nat × List V)) (R : List (Nat × (Nat × List V))) (esc : Nat → Bool) (g : G) : St := St.mk nt (ofL b L) (ofR rb R) esc g
def evX (E : Env) (L : List (Nat × V)) : Operand → Option V
 | .tmp t => getL L t
 | .const v => cst v
 | .global g => (E.glob g).map .ref
 | .func f => some (.fn (.func f) [])
def evXs (E : Env) (L : List (Nat × V)) : List Operand → Option (List V)
 | [] => some []
 | x :: l => match evX E L x with
  | none => none
  | some v => match evXs E L l with
   | none => none
   | some vs => some (v :: vs)
def partsX (E : Env) (L : List (Nat × V)) : List (Nat × Operand) → Option (List (Nat × V))
 | [] => some []
 | (i, x) :: l => match evX E L x with
  | none => none
  | some v => match partsX E L l with
   | none => none
   | some vs => some ((i, v) :: vs)
def wX (ops : Array Oper) (nt : Nat) (L : List (Nat × V)) (gd : Option (Nat × Bool)) : Option Bool :=
 match gd with
 | none => some true
 | some (j, w) => match (ops[j]?).bind (·.dst) with
  | none => none
  | some d => bif Nat.blt d nt then
   (match getL L d with
   | some (.p (.bool b)) => some (b == w)
   | some .undef => some false
   | _ => none) else none
section
variable {E : Env} {qt : Bool} {ops : Array Oper} {l : List Oper} {K : St → Prop}
variable {nt : Nat} {b : Nat → V} {L : List (Nat × V)} {rb : Nat → Option (Nat × List V)} {R : List (Nat × (Nat × List V))} {esc : Nat → Bool} {g : G}
variable {d : Nat} {ty : TypeId} {pos : String} {after : Array Edge} {gd : Option (Nat × Bool)} {op : Op}
theorem getL_of {t : Nat} {v : V} : ∀ {L : List (Nat × V)}, getL L t = some v → ofL b L t = v := by
 intro L
 induction L with
 | nil => intro h; cases h
 | cons x l ih =>
  obtain ⟨k, w⟩ := x
  simp only [getL, ofL]
  cases Nat.beq k t with
  | true => intro h; cases h; rfl
  | false => exact ih
theorem getR_of {t : Nat} {v : Nat × List V} : ∀ {R : List (Nat × (Nat × List V))}, getR R t = some v → ofR rb R t = some v := by
 intro R
 induction R with
 | nil => intro h; cases h
 | cons x l ih =>
  obtain ⟨k, w⟩ := x
  simp only [getR, ofR]
  cases Nat.beq k t with
  | true => intro h; cases h; rfl
  | false => exact ih
theorem ofL_upd {v : V} : upd (ofL b L) d v = ofL b ((d, v) :: L) := by
 funext t
 simp only [upd, ofL]
 cases hb : Nat.beq d t with
 | true => have := Nat.eq_of_beq_eq_true hb; simp [this]
 | false => rw [if_neg (fun e => by rw [e, Nat.beq_refl] at hb; cases hb)]; rfl
theorem ofR_upd {v : Nat × List V} : upd (ofR rb R) d (some v) = ofR rb ((d, v) :: R) := by
 funext t
 simp only [upd, ofR]
 cases hb : Nat.beq d t with
 | true => have := Nat.eq_of_beq_eq_true hb; simp [this]
 | false => rw [if_neg (fun e => by rw [e, Nat.beq_refl] at hb; cases hb)]; rfl
theorem evX_ok {x : Operand} {v : V} (h : evX E L x = some v) : St.ev E (St.mk nt (ofL b L) (ofR rb R) esc g) x = some v := by
 cases x with
 | tmp t => exact congrArg some (getL_of h)
 | _ => exact h
theorem evXs_ok : ∀ {xs : List Operand} {vs : List V}, evXs E L xs = some vs → evL E (St.mk nt (ofL b L) (ofR rb R) esc g) xs = some vs := by
 intro xs
 induction xs with
 | nil => intro vs h; exact h
 | cons x xs ih =>
  intro vs h
  simp only [evXs] at h
  split at h
  ·cases h
  ·rename_i v hv
   split at h
   ·cases h
   ·rename_i us hu; cases h; simp only [evL, evX_ok hv, ih hu]
theorem partsX_ok : ∀ {xs : List (Nat × Operand)} {vs : List (Nat × V)}, partsX E L xs = some vs → St.parts E (St.mk nt (ofL b L) (ofR rb R) esc g) xs = some vs := by
 intro xs
 induction xs with
 | nil => intro vs h; exact h
 | cons x xs ih =>
  obtain ⟨i, x⟩ := x
  intro vs h
  simp only [partsX] at h
  split at h
  ·cases h
  ·rename_i v hv
   split at h
   ·cases h
   ·rename_i us hu; cases h; simp only [St.parts, evX_ok hv, ih hu]
theorem wX_ok {w : Bool} (h : wX ops nt L gd = some w) : Wants ops nt (ofL b L) gd w := by
 intro s dst op ty pos after h1 h2
 unfold wX at h
 unfold wants
 cases gd with
 | none => simp only at h; cases h; rfl
 | some x =>
  obtain ⟨j, want⟩ := x
  simp only at h ⊢
  split at h
  ·cases h
  ·rename_i d hd
   simp only [hd]
   cases hb : Nat.blt d nt with
   | false => rw [hb] at h; cases h
   | true =>
    rw [hb] at h
    simp only [cond_true] at h
    rw [if_pos (by rw [h1]; exact Nat.le_of_ble_eq_true hb), h2]
    split at h
    ·rename_i c hc
     cases h
     rw [getL_of hc]
    ·rename_i hc
     cases h
     rw [getL_of hc]
    ·cases h
variable {α : Type} {f : α → List PV} {xs : List α}
theorem blt {d nt : Nat} (h : Nat.blt d nt = true) : d < nt := Nat.le_of_ble_eq_true h
theorem x_skip (h : wX ops nt L gd = some false) (hd : Nat.blt d nt = true) (k : wpL E qt ops l (Sx nt b ((d, .undef) :: L) rb R esc g) K) : wpL E qt ops (⟨some d, op, ty, pos, after, gd⟩ :: l) (Sx nt b L rb R esc g) K :=
 wpl_skip (wX_ok h) (blt hd) (by rw [ofL_upd]; exact k)
theorem x_move {x : Operand} {v : V} (h : wX ops nt L gd = some true) (hd : Nat.blt d nt = true) (hx : evX E L x = some v) (k : wpL E qt ops l (Sx nt b ((d, v) :: L) rb R esc g) K) :
  wpL E qt ops (⟨some d, .move x, ty, pos, after, gd⟩ :: l) (Sx nt b L rb R esc g) K := wpl_move (wX_ok h) (blt hd) (evX_ok hx) (by rw [ofL_upd]; exact k)
theorem x_assign {x : Operand} {v : V} (h : wX ops nt L gd = some true) (hd : Nat.blt d nt = true) (hx : evX E L x = some v) (k : wpL E qt ops l (Sx nt b ((d, v) :: L) rb R esc g) K) :
  wpL E qt ops (⟨some d, .assign x, ty, pos, after, gd⟩ :: l) (Sx nt b L rb R esc g) K := wpl_assign (wX_ok h) (blt hd) (evX_ok hx) (by rw [ofL_upd]; exact k)
theorem x_moveS {x : Operand} {z : Bool} (h : wX ops nt L gd = some true) (hd : Nat.blt d nt = true) (hx : evX E L x = some (.p (.bool z)))
  (k1 : z = true → wpL E qt ops l (Sx nt b ((d, .p (.bool true)) :: L) rb R esc g) K) (k2 : z = false → wpL E qt ops l (Sx nt b ((d, .p (.bool false)) :: L) rb R esc g) K) :
  wpL E qt ops (⟨some d, .move x, ty, pos, after, gd⟩ :: l) (Sx nt b L rb R esc g) K := by
 refine x_move h hd hx ?_
 cases z
 ·exact k2 rfl
 ·exact k1 rfl
theorem x_pickT {c x y : Operand} {v : V} (h : wX ops nt L gd = some true) (hd : Nat.blt d nt = true) (hc : evX E L c = some (.p (.bool true))) (hx : evX E L x = some v) (k : wpL E qt ops l (Sx nt b ((d, v) :: L) rb R esc g) K) :
  wpL E qt ops (⟨some d, .pick c x y, ty, pos, after, gd⟩ :: l) (Sx nt b L rb R esc g) K := wpl_pickT (wX_ok h) (blt hd) (evX_ok hc) (evX_ok hx) (by rw [ofL_upd]; exact k)
theorem x_pickF {c x y : Operand} {v : V} (h : wX ops nt L gd = some true) (hd : Nat.blt d nt = true) (hc : evX E L c = some (.p (.bool false))) (hx : evX E L y = some v) (k : wpL E qt ops l (Sx nt b ((d, v) :: L) rb R esc g) K) :
  wpL E qt ops (⟨some d, .pick c x y, ty, pos, after, gd⟩ :: l) (Sx nt b L rb R esc g) K := wpl_pickF (wX_ok h) (blt hd) (evX_ok hc) (evX_ok hx) (by rw [ofL_upd]; exact k)
theorem x_bin {o : BinOp} {t u : TypeId} {x y : Operand} {a c : V} {z : PV} (h : wX ops nt L gd = some true) (hd : Nat.blt d nt = true) (hx : evX E L x = some a) (hy : evX E L y = some c) (hz : bin E o t a c = some z)
  (k : wpL E qt ops l (Sx nt b ((d, .p z) :: L) rb R esc g) K) : wpL E qt ops (⟨some d, .binOp o t x y u, ty, pos, after, gd⟩ :: l) (Sx nt b L rb R esc g) K := wpl_bin (wX_ok h) (blt hd) (evX_ok hx) (evX_ok hy) hz (by rw [ofL_upd]; exact k)
theorem x_add {t u : TypeId} {x y : Operand} {m n : Int} (h : wX ops nt L gd = some true) (hd : Nat.blt d nt = true) (hx : evX E L x = some (.p (.int .i64 m))) (hy : evX E L y = some (.p (.int .i64 n)))
  (h1 : -9223372036854775808 ≤ m + n) (h2 : m + n ≤ 9223372036854775807)
  (k : wpL E qt ops l (Sx nt b ((d, .p (.int .i64 (m + n))) :: L) rb R esc g) K) : wpL E qt ops (⟨some d, .binOp .add t x y u, ty, pos, after, gd⟩ :: l) (Sx nt b L rb R esc g) K := wpl_add (wX_ok h) (blt hd) (evX_ok hx) (evX_ok hy) h1 h2 (by rw [ofL_upd]; exact k)
theorem x_inc {t u : TypeId} {x y : Operand} {j : Nat} (h : wX ops nt L gd = some true) (hd : Nat.blt d nt = true) (hx : evX E L x = some (.p (.int .i64 j))) (hy : evX E L y = some (.p (.int .i64 1)))
  (h2 : j < 9223372036854775807)
  (k : wpL E qt ops l (Sx nt b ((d, .p (.int .i64 (j + 1 : Nat))) :: L) rb R esc g) K) : wpL E qt ops (⟨some d, .binOp .add t x y u, ty, pos, after, gd⟩ :: l) (Sx nt b L rb R esc g) K :=
 x_add h hd hx hy (by omega) (by omega) k
theorem x_sub {t u : TypeId} {x y : Operand} {m n : Int} (h : wX ops nt L gd = some true) (hd : Nat.blt d nt = true) (hx : evX E L x = some (.p (.int .i64 m))) (hy : evX E L y = some (.p (.int .i64 n)))
  (h1 : -9223372036854775808 ≤ m - n) (h2 : m - n ≤ 9223372036854775807)
  (k : wpL E qt ops l (Sx nt b ((d, .p (.int .i64 (m - n))) :: L) rb R esc g) K) : wpL E qt ops (⟨some d, .binOp .sub t x y u, ty, pos, after, gd⟩ :: l) (Sx nt b L rb R esc g) K := wpl_sub (wX_ok h) (blt hd) (evX_ok hx) (evX_ok hy) h1 h2 (by rw [ofL_upd]; exact k)
theorem x_not {t : TypeId} {x : Operand} {c : Bool} (h : wX ops nt L gd = some true) (hd : Nat.blt d nt = true) (hx : evX E L x = some (.p (.bool c))) (k : wpL E qt ops l (Sx nt b ((d, .p (.bool (!c))) :: L) rb R esc g) K) :
  wpL E qt ops (⟨some d, .unOp .not t x, ty, pos, after, gd⟩ :: l) (Sx nt b L rb R esc g) K := wpl_not (wX_ok h) (blt hd) (evX_ok hx) (by rw [ofL_upd]; exact k)
theorem x_ldR {t : TypeId} {x : Operand} {row r : List V} {v : V} (h : wX ops nt L gd = some true) (hd : Nat.blt d nt = true) (hx : evX E L x = some (.ref row)) (hi : isag E t = some false) (hr : row = v :: r) (k : wpL E qt ops l (Sx nt b ((d, v) :: L) rb R esc g) K) :
  wpL E qt ops (⟨some d, .load t x, ty, pos, after, gd⟩ :: l) (Sx nt b L rb R esc g) K := wpl_load (wX_ok h) (blt hd) (evX_ok hx) (ldR hi hr) (by rw [ofL_upd]; exact k)
theorem x_ldRA {t : TypeId} {n : Nat} {x : Operand} {row r : List V} (h : wX ops nt L gd = some true) (hd : Nat.blt d nt = true) (hx : evX E L x = some (.ref row)) (hi : isag E t = some true) (hz : sz E t = some n) (hr : take? row 0 n = some r) (k : wpL E qt ops l (Sx nt b ((d, .agg r) :: L) rb R esc g) K) :
  wpL E qt ops (⟨some d, .load t x, ty, pos, after, gd⟩ :: l) (Sx nt b L rb R esc g) K := wpl_load (wX_ok h) (blt hd) (evX_ok hx) (ldRA hi hz hr) (by rw [ofL_upd]; exact k)
theorem x_ldL {t : TypeId} {x : Operand} {i G off : Nat} {cs : List V} {v : V} (h : wX ops nt L gd = some true) (hd : Nat.blt d nt = true) (hx : evX E L x = some (.loc i G off)) (hi : isag E t = some false) (hr : getR R i = some (G, cs)) (hc : take? cs off 1 = some [v]) (k : wpL E qt ops l (Sx nt b ((d, v) :: L) rb R esc g) K) :
  wpL E qt ops (⟨some d, .load t x, ty, pos, after, gd⟩ :: l) (Sx nt b L rb R esc g) K := wpl_load (wX_ok h) (blt hd) (evX_ok hx) (ldL hi (getR_of hr) hc) (by rw [ofL_upd]; exact k)
theorem x_ldLA {t : TypeId} {n : Nat} {x : Operand} {i G off : Nat} {cs r : List V} (h : wX ops nt L gd = some true) (hd : Nat.blt d nt = true) (hx : evX E L x = some (.loc i G off)) (hi : isag E t = some true) (hz : sz E t = some n) (hr : getR R i = some (G, cs)) (hc : take? cs off n = some r) (k : wpL E qt ops l (Sx nt b ((d, .agg r) :: L) rb R esc g) K) :
  wpL E qt ops (⟨some d, .load t x, ty, pos, after, gd⟩ :: l) (Sx nt b L rb R esc g) K := wpl_load (wX_ok h) (blt hd) (evX_ok hx) (ldLA hi hz (getR_of hr) hc) (by rw [ofL_upd]; exact k)
theorem x_fa {t : TypeId} {x : Operand} {fi off n : Nat} {ag : Bool} {a v : V} (h : wX ops nt L gd = some true) (hd : Nat.blt d nt = true) (hx : evX E L x = some a) (hf : fieldOf E t fi = some (off, n, ag)) (ha : addTo a off = some v)
  (k : wpL E qt ops l (Sx nt b ((d, v) :: L) rb R esc g) K) : wpL E qt ops (⟨some d, .fieldAddr t x fi, ty, pos, after, gd⟩ :: l) (Sx nt b L rb R esc g) K := wpl_fieldAddr (wX_ok h) (blt hd) (evX_ok hx) hf ha (by rw [ofL_upd]; exact k)
theorem x_len {t e : TypeId} {y : Operand} {v : V} (h : wX ops nt L gd = some true) (hd : Nat.blt d nt = true) (hx : evX E L y = some v) (hr : Rd f v xs) (hu : E.P.underlying t = some (.slice e))
  (k : wpL E qt ops l (Sx nt b ((d, .p (.int .i64 xs.length)) :: L) rb R esc g) K) : wpL E qt ops (⟨some d, .call { callee := .builtin .len, args := #[y], argTypes := #[t] }, ty, pos, after, gd⟩ :: l) (Sx nt b L rb R esc g) K := wpl_lenS (wX_ok h) (blt hd) (evX_ok hx) hr hu (by rw [ofL_upd]; exact k)
theorem x_lenStr {t : TypeId} {y : Operand} {s : ByteArray} (h : wX ops nt L gd = some true) (hd : Nat.blt d nt = true) (hx : evX E L y = some (.p (.str s))) (hu : E.P.underlying t = some .string)
  (k : wpL E qt ops l (Sx nt b ((d, .p (.int .i64 s.size)) :: L) rb R esc g) K) : wpL E qt ops (⟨some d, .call { callee := .builtin .len, args := #[y], argTypes := #[t] }, ty, pos, after, gd⟩ :: l) (Sx nt b L rb R esc g) K := wpl_len (wX_ok h) (blt hd) (evX_ok hx) hu rfl (by rw [ofL_upd]; exact k)
theorem x_ia {t e : TypeId} {n : Nat} {p q : Operand} {j : Nat} {a : α} {v : V} (h : wX ops nt L gd = some true) (hd : Nat.blt d nt = true) (hp : evX E L p = some v) (hr : Rd f v xs) (hq : evX E L q = some (.p (.int .i64 j)))
  (hu : E.P.underlying t = some (.slice e)) (hz : sz E e = some n) (hn : Nat.beq n 0 = false) (ha : xs[j]? = some a) (hl : (f a).length = n)
  (k : wpL E qt ops l (Sx nt b ((d, .ref ((f a).map .p)) :: L) rb R esc g) K) : wpL E qt ops (⟨some d, .indexAddr t p q, ty, pos, after, gd⟩ :: l) (Sx nt b L rb R esc g) K :=
 wpl_ia (wX_ok h) (blt hd) (evX_ok hp) hr (evX_ok hq) hu hz (fun e => by rw [e] at hn; cases hn) ha hl (by rw [ofL_upd]; exact k)
theorem x_iaI {t e : TypeId} {n : Nat} {p q : Operand} {i : Int} {a : α} {v : V} (h : wX ops nt L gd = some true) (hd : Nat.blt d nt = true) (hp : evX E L p = some v) (hr : Rd f v xs) (hq : evX E L q = some (.p (.int .i64 i)))
  (hu : E.P.underlying t = some (.slice e)) (hz : sz E e = some n) (hn : Nat.beq n 0 = false) (hi : 0 ≤ i) (ha : xs[i.toNat]? = some a) (hl : (f a).length = n)
  (k : wpL E qt ops l (Sx nt b ((d, .ref ((f a).map .p)) :: L) rb R esc g) K) : wpL E qt ops (⟨some d, .indexAddr t p q, ty, pos, after, gd⟩ :: l) (Sx nt b L rb R esc g) K :=
 wpl_iaI (wX_ok h) (blt hd) (evX_ok hp) hr (evX_ok hq) hu hz (fun e => by rw [e] at hn; cases hn) hi ha hl (by rw [ofL_upd]; exact k)
theorem x_box {t : TypeId} {x : Operand} {v : V} (h : wX ops nt L gd = some true) (hd : Nat.blt d nt = true) (he : esc d = false) (hx : evX E L x = some v) (ho : (cellsOf v).all one = true)
  (k : wpL E qt ops l (Sx nt b ((d, .loc d (genOf (ofR rb R d)) 0) :: L) rb ((d, (genOf (ofR rb R d), cellsOf v)) :: R) esc g) K) :
  wpL E qt ops (⟨some d, .box t x, ty, pos, after, gd⟩ :: l) (Sx nt b L rb R esc g) K := wpl_box (wX_ok h) (blt hd) he (evX_ok hx) ho (by rw [ofL_upd, ofR_upd]; exact k)
theorem x_alloc {t : TypeId} {cs : List V} (h : wX ops nt L gd = some true) (hd : Nat.blt d nt = true) (he : esc d = false) (hz : zeroOf E t = some cs) (ho : cs.all one = true)
  (k : wpL E qt ops l (Sx nt b ((d, .loc d (genOf (ofR rb R d)) 0) :: L) rb ((d, (genOf (ofR rb R d), cs)) :: R) esc g) K) :
  wpL E qt ops (⟨some d, .alloc t, ty, pos, after, gd⟩ :: l) (Sx nt b L rb R esc g) K := wpl_alloc (wX_ok h) (blt hd) he hz ho (by rw [ofL_upd, ofR_upd]; exact k)
theorem x_stL {t : TypeId} {x y : Operand} {i G off n : Nat} {v : V} {cs cs' : List V} (h : wX ops nt L gd = some true) (hx : evX E L x = some (.loc i G off)) (hy : evX E L y = some v) (hz : sz E t = some n) (hn : (cellsOf v).length = n)
  (ho : (cellsOf v).all one = true) (hr : getR R i = some (G, cs)) (hp : put? cs off (cellsOf v) = some cs') (k : wpL E qt ops l (Sx nt b L rb ((i, (G, cs')) :: R) esc g) K) :
  wpL E qt ops (⟨none, .store t x y, ty, pos, after, gd⟩ :: l) (Sx nt b L rb R esc g) K := wpl_storeL (wX_ok h) (evX_ok hx) (evX_ok hy) hz hn ho (getR_of hr) hp (by rw [ofR_upd]; exact k)
theorem x_call {fn : FuncId} {args : Array Operand} {ats : Array TypeId} {vs : List V} {r : V} (h : wX ops nt L gd = some true) (hd : Nat.blt d nt = true) (ha : evXs E L args.toList = some vs) (ho : (vs.flatMap cellsOf).all one = true) (hf : okFn E fn = true) (hp : CallsAt E g fn vs r g)
  (k : wpL E qt ops l (Sx nt b ((d, r) :: L) rb R esc g) K) : wpL E qt ops (⟨some d, .call { callee := .value (.func fn), args := args, argTypes := ats }, ty, pos, after, gd⟩ :: l) (Sx nt b L rb R esc g) K := wpl_call (wX_ok h) (blt hd) (evXs_ok ha) ho hf hp (by rw [ofL_upd]; exact k)
theorem x_build {t : TypeId} {ps : Array (Nat × Operand)} {fs : Array Field} {z cs : List V} {vs : List (Nat × V)} {pl : List (Nat × Nat)} (h : wX ops nt L gd = some true) (hd : Nat.blt d nt = true) (hu : E.P.underlying t = some (.struct fs)) (hz : zeroOf E t = some z) (hp : partsX E L ps.toList = some vs)
  (hl : placesL E fs.toList = some pl) (hc : fillIn (pl[·]?) z vs = some cs) (k : wpL E qt ops l (Sx nt b ((d, .agg cs) :: L) rb R esc g) K) :
  wpL E qt ops (⟨some d, .build t ps, ty, pos, after, gd⟩ :: l) (Sx nt b L rb R esc g) K := wpl_build (wX_ok h) (blt hd) hu hz (partsX_ok hp) hl hc (by rw [ofL_upd]; exact k)
theorem x_bs {t e : TypeId} {n m : Nat} {ps : Array (Nat × Operand)} {z cs : List V} {vs : List (Nat × V)} (h : wX ops nt L gd = some true) (hd : Nat.blt d nt = true) (he : esc d = false) (hu : elemOf E t = some e) (hs : sz E e = some n) (hz : zeroOf E e = some z) (hp : partsX E L ps.toList = some vs)
  (hb : (Nat.blt 0 n && Nat.beq z.length n && Nat.ble (m * n) 16777216 && z.all one) = true) (hc : fillIn (fun i => some (i * n, n)) (List.replicate m z).flatten vs = some cs) (k : wpL E qt ops l (Sx nt b ((d, .sl (chunks n m cs) .exact) :: L) rb R esc g) K) :
  wpL E qt ops (⟨some d, .buildSlice t m ps, ty, pos, after, gd⟩ :: l) (Sx nt b L rb R esc g) K := wpl_buildSlice (wX_ok h) (blt hd) he hu hs hz (partsX_ok hp) hb hc (by rw [ofL_upd]; exact k)
theorem x_extract {x : Operand} {i : Nat} {vs : List V} {v : V} (h : wX ops nt L gd = some true) (hd : Nat.blt d nt = true) (hx : evX E L x = some (.tup vs)) (hv : vs[i]? = some v) (k : wpL E qt ops l (Sx nt b ((d, v) :: L) rb R esc g) K) :
  wpL E qt ops (⟨some d, .extract x i, ty, pos, after, gd⟩ :: l) (Sx nt b L rb R esc g) K := wpl_extract (wX_ok h) (blt hd) (evX_ok hx) hv (by rw [ofL_upd]; exact k)
theorem x_index {t : TypeId} {x y : Operand} {s : ByteArray} {kk : IntKind} {j : Int} {c : UInt8} (h : wX ops nt L gd = some true) (hd : Nat.blt d nt = true) (hx : evX E L x = some (.p (.str s))) (hy : evX E L y = some (.p (.int kk j)))
  (hu : E.P.underlying t = some .string) (hj : 0 ≤ j) (hc : s[j.toNat]? = some c) (k : wpL E qt ops l (Sx nt b ((d, .p (.int .u8 c.toNat)) :: L) rb R esc g) K) :
  wpL E qt ops (⟨some d, .index t x y, ty, pos, after, gd⟩ :: l) (Sx nt b L rb R esc g) K := wpl_index (wX_ok h) (blt hd) (evX_ok hx) (evX_ok hy) hu hj hc (by rw [ofL_upd]; exact k)
variable {Q : X → St → Prop} {ks : List Ko}
theorem xc_cond {c : Operand} {p q : Code} (t : Bool) (hc : evX E L c = some (.p (.bool t))) (h1 : t = true → Wc E Q p ks (Sx nt b L rb R esc g)) (h2 : t = false → Wc E Q q ks (Sx nt b L rb R esc g)) : Wc E Q (.cond c p q) ks (Sx nt b L rb R esc g) :=
 wc_cond t (evX_ok hc) h1 h2
theorem xc_drw {id : Nat} (lo : List Nat) (hm : E.P.follows .mixedOrders = true)
  (ho : (tabOk ops (aheads ops) && Nat.ble lo.length ops.size && ordOk (fun _ => true) esc ops (aheads ops) 0 lo && lo.all (fun i => Nat.blt i ops.size)) = true)
  (h : ∀ K : St → Prop, (∀ s', Go' E Q ks .normal s' → K s') → wpL E true ops (lo.filterMap (ops[·]?)) (Sx nt b L rb R esc g) K) : Wc E Q (.region id ops true) ks (Sx nt b L rb R esc g) :=
 wc_drw lo esc hm ho rfl h
def Agr (b : Nat → V) (L : List (Nat × V)) : Prop := ∀ t v, getL L t = some v → b t = v
def AgrR (b : Nat → Option (Nat × List V)) (L : List (Nat × (Nat × List V))) : Prop := ∀ t v, getR L t = some v → b t = some v
theorem Agr.eq (h : Agr b L) : ofL b L = b := by
 funext t
 cases hg : getL L t with
 | some v => rw [getL_of hg]; exact (h t v hg).symm
 | none =>
  have : ∀ L : List (Nat × V), getL L t = none → ofL b L t = b t := by
   intro L
   induction L with
   | nil => intro _; rfl
   | cons x l ih =>
    obtain ⟨k, w⟩ := x
    simp only [getL, ofL]
    cases Nat.beq k t with
    | true => intro h; cases h
    | false => exact ih
  exact this L hg
theorem AgrR.eq (h : AgrR rb R) : ofR rb R = rb := by
 funext t
 cases hg : getR R t with
 | some v => rw [getR_of hg]; exact (h t v hg).symm
 | none =>
  have : ∀ L : List (Nat × (Nat × List V)), getR L t = none → ofR rb L t = rb t := by
   intro L
   induction L with
   | nil => intro _; rfl
   | cons x l ih =>
    obtain ⟨k, w⟩ := x
    simp only [getR, ofR]
    cases Nat.beq k t with
    | true => intro h; cases h
    | false => exact ih
  exact this R hg
def Hd (nt : Nat) (esc : Nat → Bool) (g : G) (L : List (Nat × V)) (R : List (Nat × (Nat × List V))) (s : St) : Prop :=
 ∃ b rb, s = Sx nt b L rb R esc g
theorem Hd.of {L0 : List (Nat × V)} {R0 : List (Nat × (Nat × List V))} (hL : ∀ t v, getL L t = some v → ofL b L0 t = v) (hR : ∀ t v, getR R t = some v → ofR rb R0 t = some v) : Hd nt esc g L R (Sx nt b L0 rb R0 esc g) := by
 refine ⟨ofL b L0, ofR rb R0, ?_⟩
 unfold Sx
 rw [Agr.eq (b := ofL b L0) (L := L) hL, AgrR.eq (rb := ofR rb R0) (R := R) hR]
def subL : List (Nat × V) → List (Nat × V) → Prop
 | [], _ => True
 | (t, v) :: l, L0 => getL L0 t = some v ∧ subL l L0
def subR : List (Nat × (Nat × List V)) → List (Nat × (Nat × List V)) → Prop
 | [], _ => True
 | (t, v) :: l, L0 => getR L0 t = some v ∧ subR l L0
theorem Hd.mk {L0 : List (Nat × V)} {R0 : List (Nat × (Nat × List V))} (hL : subL L L0) (hR : subR R R0) : Hd nt esc g L R (Sx nt b L0 rb R0 esc g) := by
 refine Hd.of (fun t v h => ?_) (fun t v h => ?_)
 ·induction L with
  | nil => cases h
  | cons x l ih =>
   obtain ⟨k, w⟩ := x
   simp only [getL] at h
   cases hb : Nat.beq k t with
   | true => rw [hb] at h; cases h; have := Nat.eq_of_beq_eq_true hb; subst this; exact getL_of hL.1
   | false => rw [hb] at h; exact ih hL.2 h
 ·induction R with
  | nil => cases h
  | cons x l ih =>
   obtain ⟨k, w⟩ := x
   simp only [getR] at h
   cases hb : Nat.beq k t with
   | true => rw [hb] at h; cases h; have := Nat.eq_of_beq_eq_true hb; subst this; exact getR_of hR.1
   | false => rw [hb] at h; exact ih hR.2 h
end
section
variable {E : Env}
theorem args_of : ∀ (args : List V) (t : Nat), ofL (fun _ => .undef) ((List.range args.length).map fun i => (i, args.getD i .undef)) t = args.getD t .undef := by
 intro args t
 have main : ∀ (n : Nat) (l : List Nat), (∀ i, i ∈ l → i < n) → (t ∈ l ↔ t < n) → ofL (fun _ => V.undef) (l.map fun i => (i, args.getD i .undef)) t = if t < n then args.getD t .undef else .undef := by
  intro n l
  induction l with
  | nil => intro _ h; simp only [List.map_nil, ofL]; rw [if_neg]; intro h2; exact absurd (h.2 h2) (by simp)
  | cons x l ih =>
   intro h1 h2
   simp only [List.map_cons, ofL]
   cases hb : Nat.beq x t with
   | true => have := Nat.eq_of_beq_eq_true hb; subst this; simp [h1 x (by simp)]
   | false =>
    have hne : t ≠ x := fun e => by rw [e, Nat.beq_refl] at hb; cases hb
    exact ih (fun i hi => h1 i (List.mem_cons_of_mem _ hi)) ⟨fun hm => h2.1 (List.mem_cons_of_mem _ hm), fun hlt => (List.mem_cons.1 (h2.2 hlt)).resolve_left hne⟩
 rw [main args.length _ (fun i hi => List.mem_range.1 hi) List.mem_range]
 split
 ·rfl
 ·rename_i h
  rw [List.getD_eq_getElem?_getD, List.getElem?_eq_none (by omega)]; rfl
theorem pure_walk {f : FuncId} {fn : Func} {body : Code} {args : List V} {r : V} (L : List (Nat × V)) (hf : E.P.funcs[f]? = some fn) (hb : fn.body = some body) (ha : Nat.ble args.length fn.ntmps = true)
  (hL : L = (List.range args.length).map fun i => (i, args.getD i .undef))
  (h : ∀ g, g.wo = g.objs.length → g.wt = g.toks.length → Wc E (fun e s' => (e = .normal ∨ e = .ret) ∧ ∃ vs ws, resOf E s' fn.results.toList = some vs ∧ sealL s'.g vs = some ws ∧ s'.g.wo = g.wo ∧ s'.g.wt = g.wt ∧ pack ws = r) body []
   (Sx fn.ntmps (fun _ => .undef) L (fun _ => none) [] (E.esc f) g)) : Pure E f args r := by
 refine pure_intro hf hb (Nat.le_of_ble_eq_true ha) fun g h1 h2 => ?_
 have := h g h1 h2
 unfold Sx at this
 have e : (fun t => args.getD t .undef) = ofL (fun _ => .undef) L := by funext t; rw [hL, args_of]
 rw [e]
 exact this
end
end Go.Vm
set_option linter.unusedVariables false
namespace Go.Vm
open Go
section
variable {E : Env} {nt : Nat} {b : Nat → V} {L : List (Nat × V)} {rb : Nat → Option (Nat × List V)} {R : List (Nat × (Nat × List V))} {esc : Nat → Bool} {g : G}
variable {Q : X → St → Prop} {ks : List Ko}
theorem xc_loopG {σ : Type} {body : Code} (Lf : List (Nat × V)) (Rf : List (Nat × (Nat × List V))) (Lv : σ → List (Nat × V)) (Rv : σ → List (Nat × (Nat × List V))) (Gv : σ → G) (I : σ → Prop) (μ : σ → Nat) (x0 : σ)
  (hL : subL (Lv x0 ++ Lf) L) (hR : subR (Rv x0 ++ Rf) R) (hG : Gv x0 = g) (hI : I x0)
  (h : ∀ (x : σ) (R' : X → St → Prop), (∀ x' b' L' rb' RL' g', I x' → μ x' < μ x → subL (Lv x' ++ Lf) L' → subR (Rv x' ++ Rf) RL' → Gv x' = g' → R' .normal (Sx nt b' L' rb' RL' esc g')) →
   (∀ e s', e ≠ .normal → Go' E Q ks e s' → R' e s') → I x → ∀ b rb, Wc E R' body [] (Sx nt b (Lv x ++ Lf) rb (Rv x ++ Rf) esc (Gv x))) : Wc E Q (.loop body) ks (Sx nt b L rb R esc g) := by
 refine wc_loop (fun k s => ∃ x, k = μ x ∧ I x ∧ Hd nt esc (Gv x) (Lv x ++ Lf) (Rv x ++ Rf) s) (μ x0) ⟨x0, rfl, hI, by rw [hG]; exact Hd.mk hL hR⟩ ?_
 rintro k s R' h1 h2 ⟨x, rfl, hx, b, rb, rfl⟩
 exact h x R' (fun x' b' L' rb' RL' g' hi hm hl hr hg => h1 (μ x') _ hm ⟨x', rfl, hi, by rw [hg]; exact Hd.mk hl hr⟩) h2 hx b rb
theorem xc_loop {σ : Type} {body : Code} (Lf : List (Nat × V)) (Rf : List (Nat × (Nat × List V))) (Lv : σ → List (Nat × V)) (I : σ → Prop) (μ : σ → Nat) (x0 : σ)
  (hL : subL (Lv x0 ++ Lf) L) (hR : subR Rf R) (hI : I x0)
  (h : ∀ (x : σ) (R' : X → St → Prop), (∀ x' b' L' rb' RL', I x' → μ x' < μ x → subL (Lv x' ++ Lf) L' → subR Rf RL' → R' .normal (Sx nt b' L' rb' RL' esc g)) →
   (∀ e s', e ≠ .normal → Go' E Q ks e s' → R' e s') → I x → ∀ b rb, Wc E R' body [] (Sx nt b (Lv x ++ Lf) rb Rf esc g)) : Wc E Q (.loop body) ks (Sx nt b L rb R esc g) := by
 refine wc_loop (fun k s => ∃ x, k = μ x ∧ I x ∧ Hd nt esc g (Lv x ++ Lf) Rf s) (μ x0) ⟨x0, rfl, hI, Hd.mk hL hR⟩ ?_
 rintro k s R' h1 h2 ⟨x, rfl, hx, b, rb, rfl⟩
 exact h x R' (fun x' b' L' rb' RL' hi hm hl hr => h1 (μ x') _ hm ⟨x', rfl, hi, Hd.mk hl hr⟩) h2 hx b rb
theorem x_end1 {e : X} {t : Nat} {v w r : V} {rs : List ResultVar} {g0 : G} (he : e = .normal ∨ e = .ret) (hrs : rs = [.tmp t]) (hv : getL L t = some v) (h1 : (cellsOf v).all one = true) (hs : sealV g v = some w) (hwo : g.wo = g0.wo) (hwt : g.wt = g0.wt) (hr : w = r) :
  (e = .normal ∨ e = .ret) ∧ ∃ vs ws, resOf E (Sx nt b L rb R esc g) rs = some vs ∧ sealL (Sx nt b L rb R esc g).g vs = some ws ∧ (Sx nt b L rb R esc g).g.wo = g0.wo ∧ (Sx nt b L rb R esc g).g.wt = g0.wt ∧ pack ws = r := by
 subst hrs
 refine ⟨he, [v], [w], ?_, ?_, hwo, hwt, hr⟩
 ·have : (Sx nt b L rb R esc g).tm t = v := getL_of hv
  simp only [resOf, this, h1, if_true]
 ·show sealL g [v] = some [w]
  simp only [sealL, hs]
theorem x_callD {qt : Bool} {ops : Array Oper} {l : List Oper} {K : St → Prop} {d : Nat} {ty : TypeId} {pos : String} {after : Array Edge} {gd : Option (Nat × Bool)} {fx : Operand} {fn : FuncId} {caps : List V} {args : Array Operand} {ats : Array TypeId} {vs : List V} {r : V}
  (h : wX ops nt L gd = some true) (hd : Nat.blt d nt = true) (hfx : evX E L fx = some (.fn (.func fn) caps)) (ha : evXs E L args.toList = some vs) (ho : (vs.flatMap cellsOf).all one = true) (hf : okFn E fn = true) (hp : CallsAt E g fn (vs ++ caps) r g)
  (k : wpL E qt ops l (Sx nt b ((d, r) :: L) rb R esc g) K) : wpL E qt ops (⟨some d, .call { callee := .value fx, args := args, argTypes := ats }, ty, pos, after, gd⟩ :: l) (Sx nt b L rb R esc g) K := by
 unfold Sx at *
 unfold wpL
 rw [wants_of (s := St.mk nt (ofL b L) (ofR rb R) esc g) (wX_ok h)]
 simp only
 unfold opW callOf
 simp only
 rw [evX_ok hfx, evXs_ok ha]
 simp only [ho, hf, Bool.and_self, if_true]
 refine ⟨r, g, hp, fun _ => rfl, ?_⟩
 rw [putW_some, ofL_upd]
 exact ⟨blt hd, k⟩
theorem veq {a b : Bool} (h : a = true ↔ b = true) : V.p (.bool a) = V.p (.bool b) := by rw [Bool.eq_iff_iff.2 h]
theorem ieq {a b : Int} (h : a = b) : V.p (.int .i64 a) = V.p (.int .i64 b) := by rw [h]
theorem xc_regCut {id : Nat} {ops : Array Oper} (Lf : List (Nat × V)) (Rk : List (Nat × (Nat × List V))) (Lw : List (Nat × V)) (_hL : subL Lf L) (_hR : subR Rk R)
  (h1 : ∀ K : St → Prop, (∀ b' L' rb' R', subL (Lw ++ Lf) L' → subR Rk R' → K (Sx nt b' L' rb' R' esc g)) → wpL E false ops ops.toList (Sx nt b L rb R esc g) K)
  (h2 : ∀ b rb, Go' E Q ks .normal (Sx nt b (Lw ++ Lf) rb Rk esc g)) : Wc E Q (.region id ops false) ks (Sx nt b L rb R esc g) := by
 refine wc_reg fun K hK => h1 K fun b' L' rb' R' hl hr => ?_
 obtain ⟨b2, rb2, e⟩ := Hd.mk (nt := nt) (b := b') (rb := rb') (esc := esc) (g := g) hl hr
 rw [e]
 exact hK _ (h2 b2 rb2)
theorem xc_drwCut {id : Nat} {ops : Array Oper} (lo : List Nat) (hm : E.P.follows .mixedOrders = true)
  (ho : (tabOk ops (aheads ops) && Nat.ble lo.length ops.size && ordOk (fun _ => true) esc ops (aheads ops) 0 lo && lo.all (fun i => Nat.blt i ops.size)) = true) (Lf : List (Nat × V)) (Rk : List (Nat × (Nat × List V))) (Lw : List (Nat × V)) (_hL : subL Lf L) (_hR : subR Rk R)
  (h1 : ∀ K : St → Prop, (∀ b' L' rb' R', subL (Lw ++ Lf) L' → subR Rk R' → K (Sx nt b' L' rb' R' esc g)) → wpL E true ops (lo.filterMap (ops[·]?)) (Sx nt b L rb R esc g) K)
  (h2 : ∀ b rb, Go' E Q ks .normal (Sx nt b (Lw ++ Lf) rb Rk esc g)) : Wc E Q (.region id ops true) ks (Sx nt b L rb R esc g) := by
 refine xc_drw lo hm ho fun K hK => h1 K fun b' L' rb' R' hl hr => ?_
 obtain ⟨b2, rb2, e⟩ := Hd.mk (nt := nt) (b := b') (rb := rb') (esc := esc) (g := g) hl hr
 rw [e]
 exact hK _ (h2 b2 rb2)
theorem at_walk {f : FuncId} {fn : Func} {body : Code} {args : List V} {r : V} {g0 : G} (L : List (Nat × V)) (hf : E.P.funcs[f]? = some fn) (hb : fn.body = some body) (ha : Nat.ble args.length fn.ntmps = true)
  (hL : L = (List.range args.length).map fun i => (i, args.getD i .undef))
  (h : ∀ g, g.objs = g0.objs → g.toks = g0.toks → g.wo = g.objs.length → g.wt = g.toks.length → Wc E (fun e s' => (e = .normal ∨ e = .ret) ∧ ∃ vs ws, resOf E s' fn.results.toList = some vs ∧ sealL s'.g vs = some ws ∧ s'.g.wo = g.wo ∧ s'.g.wt = g.wt ∧ pack ws = r) body []
   (Sx fn.ntmps (fun _ => .undef) L (fun _ => none) [] (E.esc f) g)) : CallsAt E g0 f args r g0 := by
 have hw := h { g0 with wo := g0.objs.length, wt := g0.toks.length } rfl rfl rfl rfl
 unfold Sx at hw
 have e : ofL (fun _ => .undef) L = (fun t => args.getD t .undef) := by funext t; rw [hL, args_of]
 rw [e] at hw
 refine .fnClean _ hf hb (Nat.le_of_ble_eq_true ha) hw fun e s' hq => ?_
 obtain ⟨h1, vs, ws, h2, h3, h4, h5, h6⟩ := hq
 exact ⟨h1, vs, ws, h2, h3, h4, h5, h6, rfl⟩
theorem ho_nil : (([] : List V).flatMap cellsOf).all one = true := rfl
theorem ho_cons {v : V} {vs : List V} (h : (cellsOf v).all one = true) (k : (vs.flatMap cellsOf).all one = true) : ((v :: vs).flatMap cellsOf).all one = true := by
 rw [List.flatMap_cons, List.all_append, h, k]; rfl
theorem rd_ho {α : Type} {f : α → List PV} {v : V} {xs : List α} (h : Rd f v xs) : (cellsOf v).all one = true := by
 obtain ⟨h1, h2⟩ := h.one
 rw [h2]; simp [h1]
end
end Go.Vm
namespace Go.Vm
open Go
def lowB (c : UInt8) : Bool := (97 ≤ c.toNat && c.toNat ≤ 122) || c.toNat == 95
def digB (c : UInt8) : Bool := 48 ≤ c.toNat && c.toNat ≤ 57
def inNameB (c : UInt8) : Bool := lowB c || digB c
def strLt (a b : ByteArray) : Bool := Op.bytesLess a.toList b.toList
def risI : List Int → Bool
 | a :: b :: l => decide (a < b) && risI (b :: l)
 | _ => true
def risS : List ByteArray → Bool
 | a :: b :: l => strLt a b && risS (b :: l)
 | _ => true
theorem risI_iff (l : List Int) : risI l = true ↔ ∀ j, j + 1 < l.length → l.getD j 0 < l.getD (j + 1) 0 := by
 induction l with
 | nil => simp [risI]
 | cons a l ih =>
  cases l with
  | nil => simp [risI]
  | cons b l =>
   simp only [risI, Bool.and_eq_true, decide_eq_true_eq, ih]
   constructor
   ·rintro ⟨h1, h2⟩ j hj
    cases j with
    | zero => simpa using h1
    | succ j => simpa using h2 j (by simpa using hj)
   ·intro h
    exact ⟨by simpa using h 0 (by simp), fun j hj => by simpa using h (j + 1) (by simpa using hj)⟩
theorem risS_iff (l : List ByteArray) : risS l = true ↔ ∀ j, j + 1 < l.length → strLt (l.getD j default) (l.getD (j + 1) default) = true := by
 induction l with
 | nil => simp [risS]
 | cons a l ih =>
  cases l with
  | nil => simp [risS]
  | cons b l =>
   simp only [risS, Bool.and_eq_true, ih]
   constructor
   ·rintro ⟨h1, h2⟩ j hj
    cases j with
    | zero => simpa using h1
    | succ j => simpa using h2 j (by simpa using hj)
   ·intro h
    exact ⟨by simpa using h 0 (by simp), fun j hj => by simpa using h (j + 1) (by simpa using hj)⟩
def runN (p : UInt8 → Bool) : List UInt8 → Nat
 | [] => 0
 | c :: l => if p c then runN p l + 1 else 0
theorem runN_eq (p : UInt8 → Bool) (l : List UInt8) (j : Nat) (h : ∀ i, i < j → ∃ c, l[i]? = some c ∧ p c = true) (h2 : ∀ c, l[j]? = some c → p c = false) : runN p l = j := by
 induction l generalizing j with
 | nil =>
  cases j with
  | zero => rfl
  | succ j => obtain ⟨c, hc, _⟩ := h 0 (by omega); simp at hc
 | cons c l ih =>
  cases j with
  | zero => have := h2 c (by simp); simp [runN, this]
  | succ j =>
   obtain ⟨c', hc, hp⟩ := h 0 (by omega)
   simp at hc; subst hc
   simp only [runN, hp, if_true]
   rw [ih j (fun i hi => by simpa using h (i + 1) (by omega)) (fun c hc => h2 c (by simpa using hc))]
theorem risI_no {l : List Int} {j : Nat} (h : j + 1 < l.length) (h1 : l[j + 1] ≤ l[j]) : risI l = false := by
 cases hr : risI l with
 | false => rfl
 | true =>
  have := (risI_iff l).1 hr j h
  simp [List.getD_eq_getElem?_getD, h, show j < l.length by omega] at this
  omega
theorem risI_up {l : List Int} {j : Nat} (hr : ∀ i, i < j → l.getD i 0 < l.getD (i + 1) 0) (h : j + 1 < l.length) (h1 : l[j] < l[j + 1]) : ∀ i, i < j + 1 → l.getD i 0 < l.getD (i + 1) 0 := by
 intro i hi
 by_cases e : i = j
 ·subst e; simp [List.getD_eq_getElem?_getD, h, show i < l.length by omega]; exact h1
 ·exact hr i (by omega)
theorem risS_no {l : List ByteArray} {j : Nat} (h : j + 1 < l.length) (h1 : strLt l[j] l[j + 1] = false) : risS l = false := by
 cases hr : risS l with
 | false => rfl
 | true =>
  have := (risS_iff l).1 hr j h
  simp [List.getD_eq_getElem?_getD, h, show j < l.length by omega, h1] at this
theorem risS_up {l : List ByteArray} {j : Nat} (hr : ∀ i, i < j → strLt (l.getD i default) (l.getD (i + 1) default) = true) (h : j + 1 < l.length) (h1 : strLt l[j] l[j + 1] = true) : ∀ i, i < j + 1 → strLt (l.getD i default) (l.getD (i + 1) default) = true := by
 intro i hi
 by_cases e : i = j
 ·subst e; simp [List.getD_eq_getElem?_getD, h, show i < l.length by omega]; exact h1
 ·exact hr i (by omega)
theorem runN_up {s : ByteArray} {p : UInt8 → Bool} {j : Nat} (hr : ∀ i, i < j → ∃ c, s.data.toList[i]? = some c ∧ p c = true) {c : UInt8} (h : s.data.toList[j]? = some c) (h1 : p c = true) : ∀ i, i < j + 1 → ∃ c, s.data.toList[i]? = some c ∧ p c = true := by
 intro i hi
 by_cases e : i = j
 ·subst e; exact ⟨c, h, h1⟩
 ·exact hr i (by omega)
theorem str_at {s : ByteArray} {j : Nat} (h : j < s.size) : s[((j : Nat) : Int).toNat]? = some s[j] ∧ s.data.toList[j]? = some s[j] := by
 constructor
 ·simp [h]
 ·have : j < s.data.toList.length := by simpa using h
  rw [List.getElem?_eq_getElem this]
  rfl
end Go.Vm
set_option linter.unusedVariables false
namespace Go.Vm
open Go
def G.ext (g : G) (os : List Ob) (ts : List Nat) : G := ⟨g.objs ++ os, g.toks ++ ts, g.wo, g.wt⟩
theorem G.ext_nil (g : G) : g.ext [] [] = g := by cases g; simp [G.ext]
theorem ext_obj {g : G} {os : List Ob} {ts : List Nat} {i : Nat} : (g.ext os ts).objs[g.objs.length + i]? = os[i]? := by
 simp [G.ext, List.getElem?_append_right]
theorem ext_tok {g : G} {os : List Ob} {ts : List Nat} {i : Nat} : (g.ext os ts).toks[g.toks.length + i]? = ts[i]? := by
 simp [G.ext, List.getElem?_append_right]
theorem ext_new {g : G} {os : List Ob} {ts : List Nat} {o : Ob} : (g.ext os ts).newObj o = g.ext (os ++ [o]) ts := by
 simp [G.ext, G.newObj]
theorem ext_len {g : G} {os : List Ob} {ts : List Nat} : (g.ext os ts).objs.length = g.objs.length + os.length := by simp [G.ext]
theorem ext_set {g : G} {os : List Ob} {ts : List Nat} {i : Nat} {o : Ob} (hw : g.wo = g.objs.length) : (g.ext os ts).setObj (g.objs.length + i) o = g.ext (os.set i o) ts := by
 simp only [G.ext, G.setObj, hw]
 congr 1
 ·rw [List.set_append_right _ _ (by omega)]; simp
 ·omega
section
variable {E : Env} {qt : Bool} {ops : Array Oper} {l : List Oper} {K : St → Prop}
variable {nt : Nat} {b : Nat → V} {L : List (Nat × V)} {rb : Nat → Option (Nat × List V)} {R : List (Nat × (Nat × List V))} {esc : Nat → Bool} {g : G} {os : List Ob} {ts : List Nat}
variable {d : Nat} {ty : TypeId} {pos : String} {after : Array Edge} {gd : Option (Nat × Bool)} {op : Op}
theorem x_op {s1 : St} {v : V} {g' : G} (h : wX ops nt L gd = some true) (hd : Nat.blt d nt = true) (hc : callOf E (Sx nt b L rb R esc g) ⟨some d, op, ty, pos, after, gd⟩ = none)
  (hs : stepV E (Sx nt b L rb R esc g) ⟨some d, op, ty, pos, after, gd⟩ = some (v, Sx nt b L rb R esc g')) (k : wpL E qt ops l (Sx nt b ((d, v) :: L) rb R esc g') K) :
  wpL E qt ops (⟨some d, op, ty, pos, after, gd⟩ :: l) (Sx nt b L rb R esc g) K :=
 wpl_op (wX_ok h) (blt hd) hc hs (by rw [ofL_upd]; exact k)
theorem x_op0 {v : V} {g' : G} (h : wX ops nt L gd = some true) (hc : callOf E (Sx nt b L rb R esc g) ⟨none, op, ty, pos, after, gd⟩ = none)
  (hs : stepV E (Sx nt b L rb R esc g) ⟨none, op, ty, pos, after, gd⟩ = some (v, Sx nt b L rb R esc g')) (k : wpL E qt ops l (Sx nt b L rb R esc g') K) :
  wpL E qt ops (⟨none, op, ty, pos, after, gd⟩ :: l) (Sx nt b L rb R esc g) K :=
 wpl_op0 (wX_ok h) hc hs k
theorem x_nil {s : St} (h : K s) : wpL E qt ops [] s K := h
theorem evS {x : Operand} {v : V} (h : evX E L x = some v) : St.ev E (Sx nt b L rb R esc g) x = some v := evX_ok h
theorem evSs {xs : List Operand} {vs : List V} (h : evXs E L xs = some vs) : evL E (Sx nt b L rb R esc g) xs = some vs := evXs_ok h
theorem x_mkmap {t : TypeId} (h : wX ops nt L gd = some true) (hd : Nat.blt d nt = true) (k : wpL E qt ops l (Sx nt b ((d, .map (g.objs.length + os.length)) :: L) rb R esc (g.ext (os ++ [.map [] 0]) ts)) K) :
  wpL E qt ops (⟨some d, .makeMap t none, ty, pos, after, gd⟩ :: l) (Sx nt b L rb R esc (g.ext os ts)) K := by
 refine x_op (s1 := Sx nt b L rb R esc g) h hd rfl ?_ k
 simp only [stepV, Sx, ext_len, ext_new]
theorem x_lookup {t kt et : TypeId} {kd : TypeDesc} {zv r : V} {x y : Operand} {i c : Nat} {k : PV} {es : List (PV × V × Nat)} {ok : Bool} (h : wX ops nt L gd = some true) (hd : Nat.blt d nt = true) (hx : evX E L x = some (.map (g.objs.length + i))) (hy : evX E L y = some (.p k))
  (ho : os[i]? = some (.map es c)) (hu : E.P.underlying t = some (.map kt et)) (hk : E.P.underlying kt = some kd) (hz : zeroV E et = some zv) (hok : keyOk kd k = true) (hall : es.all (fun e => keyOk kd e.1) = true)
  (hr : (match findKey es k with | some v => (if ok then .tup [v, .p (.bool true)] else v) | none => (if ok then .tup [zv, .p (.bool false)] else zv)) = r)
  (kk : wpL E qt ops l (Sx nt b ((d, r) :: L) rb R esc (g.ext os ts)) K) : wpL E qt ops (⟨some d, .lookup t x y ok, ty, pos, after, gd⟩ :: l) (Sx nt b L rb R esc (g.ext os ts)) K := by
 refine x_op (s1 := Sx nt b L rb R esc g) h hd rfl ?_ kk
 have he : entriesOf (Sx nt b L rb R esc (g.ext os ts)).g (.map (g.objs.length + i)) = some es := by
  simp only [entriesOf, Sx, ext_obj, ho]
 simp only [stepV, evS hx, evS hy, hu, hk, hz, he, hok, hall, and_self, if_true]
 subst hr
 cases findKey es k <;> rfl
theorem x_mapnew {t kt et : TypeId} {kd : TypeDesc} {x y z : Operand} {i c : Nat} {k : PV} {v : V} {es : List (PV × V × Nat)} {op : Op} (hop : op = .mapUpdate t x y z ∨ op = .insert t x y z) (h : wX ops nt L gd = some true) (hw : g.wo = g.objs.length) (hx : evX E L x = some (.map (g.objs.length + i))) (hy : evX E L y = some (.p k)) (hv : evX E L z = some v)
  (ho : os[i]? = some (.map es c)) (hu : E.P.underlying t = some (.map kt et)) (hk : E.P.underlying kt = some kd) (hok : keyOk kd k = true) (hall : es.all (fun e => keyOk kd e.1) = true) (hone : (cellsOf v).all one = true) (hf : findKey es k = none)
  (kk : wpL E qt ops l (Sx nt b L rb R esc (g.ext (os.set i (.map (es ++ [(k, v, c)]) (c + 1))) ts)) K) : wpL E qt ops (⟨none, op, ty, pos, after, gd⟩ :: l) (Sx nt b L rb R esc (g.ext os ts)) K := by
 have hg : (Sx nt b L rb R esc (g.ext os ts)).g.objs[g.objs.length + i]? = some (.map es c) := by simp only [Sx, ext_obj, ho]
 have hs : (Sx nt b L rb R esc (g.ext os ts)).g.setObj (g.objs.length + i) (.map (es ++ [(k, v, c)]) (c + 1)) = g.ext (os.set i (.map (es ++ [(k, v, c)]) (c + 1))) ts := ext_set hw
 rcases hop with rfl | rfl
 ·refine x_op0 (v := .undef) h rfl ?_ kk
  simp only [stepV, evS hx, evS hy, evS hv, hu, hk, hg, hok, hall, hone, and_self, if_true, hf, hs]
  rfl
 ·refine x_op0 (v := .undef) h rfl ?_ kk
  simp only [stepV, evS hx, evS hy, evS hv, hu, hk, hg, hok, hall, hone, and_self, if_true, hf, hs]
  rfl
theorem x_mkslice {t e : TypeId} {x y : Operand} {z : List V} {n m : Nat} {by' : Nat} (h : wX ops nt L gd = some true) (hd : Nat.blt d nt = true) (hx : evX E L x = some (.p (.int .i64 n))) (hy : evX E L y = some (.p (.int .i64 n))) (he : elemOf E t = some e) (hz : zeroOf E e = some z)
  (hi : (E.P.info? e).map (fun i => (i.size, i.bytes)) = some (m, by')) (hm : (Nat.blt 0 m && Nat.beq z.length m && z.all one) = true) (hn : n * by' ≤ 2 ^ 47) (hn2 : n ≤ 2 ^ 47)
  (k : wpL E qt ops l (Sx nt b ((d, .arr (g.objs.length + os.length) 0 n n m) :: L) rb R esc (g.ext (os ++ [.cells (List.replicate n z).flatten]) ts)) K) :
  wpL E qt ops (⟨some d, .makeSlice t x y, ty, pos, after, gd⟩ :: l) (Sx nt b L rb R esc (g.ext os ts)) K := by
 simp only [Bool.and_eq_true] at hm
 obtain ⟨⟨h1, h2⟩, h3⟩ := hm
 have h1 := blt h1
 have h2 := Nat.eq_of_beq_eq_true h2
 obtain ⟨inf, hinf, hie⟩ := Option.map_eq_some_iff.1 hi
 simp only [Prod.mk.injEq] at hie
 obtain ⟨rfl, rfl⟩ := hie
 refine x_op (s1 := Sx nt b L rb R esc g) h hd rfl ?_ k
 simp only [stepV, he, evS hx, evS hy, hinf, hz]
 rw [if_neg]
 ·simp only [Int.toNat_natCast, Sx, ext_len, ext_new]
 ·have : (inf.bytes : Int) * (n : Int) = ((n * inf.bytes : Nat) : Int) := by push_cast; exact Int.mul_comm _ _
  rw [this]
  simp only [h3, not_true_eq_false, or_false]
  omega
theorem x_iaA {t e : TypeId} {n : Nat} {p q : Operand} {id off len cap : Nat} {i : Int} (h : wX ops nt L gd = some true) (hd : Nat.blt d nt = true) (hp : evX E L p = some (.arr id off len cap n)) (hq : evX E L q = some (.p (.int .i64 i)))
  (hu : E.P.underlying t = some (.slice e)) (hz : sz E e = some n) (hn : Nat.beq n 0 = false) (h0 : 0 ≤ i) (hi : i < len)
  (k : wpL E qt ops l (Sx nt b ((d, .ptr id (off + i.toNat * n)) :: L) rb R esc g) K) : wpL E qt ops (⟨some d, .indexAddr t p q, ty, pos, after, gd⟩ :: l) (Sx nt b L rb R esc g) K := by
 refine x_op (s1 := Sx nt b L rb R esc g) h hd rfl ?_ k
 simp only [stepV, evS hp, evS hq, hu, hz]
 rw [if_neg (by omega), if_neg (fun e => by rw [e] at hn; cases hn)]
 simp only [hi, and_self, if_true]
theorem x_lenA {t e : TypeId} {y : Operand} {id off len cap n : Nat} (h : wX ops nt L gd = some true) (hd : Nat.blt d nt = true) (hx : evX E L y = some (.arr id off len cap n)) (hu : E.P.underlying t = some (.slice e))
  (k : wpL E qt ops l (Sx nt b ((d, .p (.int .i64 len)) :: L) rb R esc g) K) : wpL E qt ops (⟨some d, .call { callee := .builtin .len, args := #[y], argTypes := #[t] }, ty, pos, after, gd⟩ :: l) (Sx nt b L rb R esc g) K :=
 wpl_len (wX_ok h) (blt hd) (evX_ok hx) hu rfl (by rw [ofL_upd]; exact k)
theorem put?_one {cs : List V} {off : Nat} {v : V} (h : off < cs.length) : put? cs off [v] = some (cs.set off v) := by
 unfold put?
 rw [if_pos (by simp; omega)]
 congr 1
 rw [List.set_eq_take_append_cons_drop, if_pos h]
 simp
theorem x_stP {t : TypeId} {x y : Operand} {i off n : Nat} {cs : List V} {v : V} (h : wX ops nt L gd = some true) (hw : g.wo = g.objs.length) (hx : evX E L x = some (.ptr (g.objs.length + i) off)) (hy : evX E L y = some v) (hz : sz E t = some 1) (hc : cellsOf v = [v]) (h1 : one v = true)
  (ho : os[i]? = some (.cells cs)) (hlt : off < cs.length) (k : wpL E qt ops l (Sx nt b L rb R esc (g.ext (os.set i (.cells (cs.set off v))) ts)) K) :
  wpL E qt ops (⟨none, .store t x y, ty, pos, after, gd⟩ :: l) (Sx nt b L rb R esc (g.ext os ts)) K := by
 refine x_op0 (v := .undef) h rfl ?_ k
 have hg : (Sx nt b L rb R esc (g.ext os ts)).g.objs[g.objs.length + i]? = some (.cells cs) := by simp only [Sx, ext_obj, ho]
 have hs : (Sx nt b L rb R esc (g.ext os ts)).g.setObj (g.objs.length + i) (.cells (cs.set off v)) = g.ext (os.set i (.cells (cs.set off v))) ts := ext_set hw
 simp only [stepV, evS hx, evS hy, hz, hc, List.length_singleton, if_true, St.storeCells, List.all_cons, h1, List.all_nil, Bool.and_true, hg, put?_one hlt, Option.map_some, hs]
 rfl
theorem x_boxE {t : TypeId} {x : Operand} {v : V} (h : wX ops nt L gd = some true) (hd : Nat.blt d nt = true) (he : esc d = true) (hx : evX E L x = some v) (ho : (cellsOf v).all one = true)
  (k : wpL E qt ops l (Sx nt b ((d, .ptr (g.objs.length + os.length) 0) :: L) rb R esc (g.ext (os ++ [.cells (cellsOf v)]) ts)) K) :
  wpL E qt ops (⟨some d, .box t x, ty, pos, after, gd⟩ :: l) (Sx nt b L rb R esc (g.ext os ts)) K := by
 refine x_op (s1 := Sx nt b L rb R esc g) h hd rfl ?_ k
 have he' : (Sx nt b L rb R esc (g.ext os ts)).esc d = true := he
 simp only [stepV, evS hx, St.newVar, ho, if_true, he']
 simp only [Sx, ext_len, ext_new]
theorem x_ldO {t : TypeId} {x : Operand} {id off : Nat} {cs : List V} {v : V} (h : wX ops nt L gd = some true) (hd : Nat.blt d nt = true) (hx : evX E L x = some (.ptr id off)) (hi : isag E t = some false) (ho : g.objs[id]? = some (.cells cs)) (hc : cs[off]? = some v)
  (k : wpL E qt ops l (Sx nt b ((d, v) :: L) rb R esc g) K) : wpL E qt ops (⟨some d, .load t x, ty, pos, after, gd⟩ :: l) (Sx nt b L rb R esc g) K := by
 refine x_op (s1 := Sx nt b L rb R esc g) h hd rfl ?_ k
 have hlt := (List.getElem?_eq_some_iff.1 hc).1
 have ht : take? cs off 1 = some [v] := by
  unfold take?
  rw [if_pos (by omega)]
  congr 1
  rw [List.take_one, List.head?_drop, hc]
  rfl
 have hg : (Sx nt b L rb R esc g).g.objs[id]? = some (.cells cs) := ho
 simp only [stepV, evS hx, St.loadV, hi, St.loadCells, hg, ht]
 rfl
theorem x_mkfn {f : FuncId} {caps : Array Operand} {vs : List V} (h : wX ops nt L gd = some true) (hd : Nat.blt d nt = true) (hc : evXs E L caps.toList = some vs) (ho : vs.all one = true)
  (k : wpL E qt ops l (Sx nt b ((d, .fn (.func f) vs) :: L) rb R esc g) K) : wpL E qt ops (⟨some d, .makeFunc (.func f) #[] caps, ty, pos, after, gd⟩ :: l) (Sx nt b L rb R esc g) K := by
 refine x_op (s1 := Sx nt b L rb R esc g) h hd rfl ?_ k
 simp only [stepV, evSs hc, ho, if_true]
 rfl
variable {α : Type} {f : α → List PV}
def accV (f : α → List PV) (T n : Nat) : List α → V
 | [] => .p .nilsl
 | x :: xs => .sl ((x :: xs).map fun a => (f a).map .p) (.own T (x :: xs).length n)
def accT : List α → List Nat
 | [] => []
 | x :: xs => [(x :: xs).length]
theorem Rd.acc {T n : Nat} {xs : List α} : Rd f (accV f T n xs) xs := by
 cases xs with
 | nil => exact .nil
 | cons x xs => exact .sl (x :: xs) _
def Sl.of (xs : List α) : Sl α := ⟨xs.isEmpty, xs, by cases xs <;> simp⟩
theorem pvCells_map (l : List PV) : pvCells (l.map .p) = some l := by
 induction l with
 | nil => rfl
 | cons x l ih => simp [pvCells, ih]
theorem pvRows_map (xs : List α) : pvRows (xs.map fun a => (f a).map .p) = some (xs.map f) := by
 induction xs with
 | nil => rfl
 | cons x xs ih => simp [pvRows, pvCells_map, ih]
theorem rows_rd {v : V} {xs : List α} (h : Rd f v xs) {s : St} {n : Nat} : s.rows n v = some (xs.map fun a => (f a).map .p) := by
 cases h with
 | nil => rfl
 | p => simp [St.rows, List.map_map]
 | sl => rfl
theorem all_rowOk {n : Nat} {xs : List α} (hl : ∀ a, (f a).length = n) : (xs.map fun a => (f a).map V.p).all (rowOk n) = true := by
 rw [List.all_eq_true]
 intro r hr
 obtain ⟨a, _, rfl⟩ := List.mem_map.1 hr
 simp only [rowOk, List.length_map, hl, beq_self_eq_true, Bool.true_and]
 rw [List.all_eq_true]
 intro c hc
 obtain ⟨p, _, rfl⟩ := List.mem_map.1 hc
 rfl
theorem append_nil {s : St} {dst : Option Tmp} {e : TypeId} {y : V} {i : TypeInfo} {z r : List V} {new : List (List V)} (hi : E.P.info? e = some i) (hz : zeroOf E e = some z) (hr : s.rows i.size y = some (r :: new)) (hb : s.big dst = false)
  (hok : ¬ (i.size = 0 ∨ i.bytes = 0 ∨ z.length ≠ i.size ∨ ¬ (r :: new).all (rowOk i.size) = true)) (hn : (r :: new).length * i.bytes ≤ 2 ^ 47) :
  s.append E dst e (.p .nilsl) y = some (.sl (r :: new) (.own s.g.toks.length (r :: new).length i.size), { s with g := { s.g with toks := s.g.toks ++ [(r :: new).length] } }) := by
 unfold St.append
 simp only [hi, hz, hr]
 rw [if_neg hok, if_pos hn, hb]
 rfl
theorem append_own {s : St} {dst : Option Tmp} {e : TypeId} {y : V} {i : TypeInfo} {z r : List V} {new rows : List (List V)} {k pos : Nat} (hi : E.P.info? e = some i) (hz : zeroOf E e = some z) (hr : s.rows i.size y = some (r :: new))
  (hok : ¬ (i.size = 0 ∨ i.bytes = 0 ∨ z.length ≠ i.size ∨ ¬ (r :: new).all (rowOk i.size) = true)) (hn : (rows.length + (r :: new).length) * i.bytes ≤ 2 ^ 47) (hrows : rows.all (rowOk i.size) = true) (ht : s.g.toks[k]? = some pos) :
  s.append E dst e (.sl rows (.own k pos i.size)) y = some (.sl (rows ++ r :: new) (.own k (pos + (r :: new).length) i.size), { s with g := { s.g with toks := s.g.toks.set k (pos + (r :: new).length), wt := min s.g.wt k } }) := by
 unfold St.append
 simp only [hi, hz, hr]
 rw [if_neg hok, if_pos ⟨hn, hrows, ht, trivial⟩]
theorem x_acc {t u e : TypeId} {x y : Operand} {m by' : Nat} {z : List V} {xs ys : List α} {w : V} (h : wX ops nt L gd = some true) (hd : Nat.blt d nt = true) (hnb : esc d = false) (hwt : g.wt = g.toks.length) (hx : evX E L x = some (accV f g.toks.length m xs)) (hy : evX E L y = some w) (hr : Rd f w ys)
  (he : elemOf E t = some e) (hu : E.P.underlying u = some (.slice e)) (hz : zeroOf E e = some z) (hi : (E.P.info? e).map (fun i => (i.size, i.bytes)) = some (m, by')) (hm : (Nat.blt 0 m && Nat.blt 0 by' && Nat.beq z.length m) = true)
  (hl : ∀ a, (f a).length = m) (hn : (xs.length + ys.length) * by' ≤ 2 ^ 47)
  (k : wpL E qt ops l (Sx nt b ((d, accV f g.toks.length m (xs ++ ys)) :: L) rb R esc (g.ext os (accT (xs ++ ys)))) K) :
  wpL E qt ops (⟨some d, .call { callee := .builtin .append, args := #[x, y], argTypes := #[t, u] }, ty, pos, after, gd⟩ :: l) (Sx nt b L rb R esc (g.ext os (accT xs))) K := by
 simp only [Bool.and_eq_true] at hm
 obtain ⟨⟨h1, h2⟩, h3⟩ := hm
 have h1 := blt h1
 have h2 := blt h2
 have h3 := Nat.eq_of_beq_eq_true h3
 obtain ⟨inf, hinf, hie⟩ := Option.map_eq_some_iff.1 hi
 simp only [Prod.mk.injEq] at hie
 obtain ⟨rfl, rfl⟩ := hie
 refine x_op (s1 := Sx nt b L rb R esc g) h hd rfl ?_ k
 have a0 : (#[t, u] : Array TypeId)[0]? = some t := rfl
 have a1 : (#[t, u] : Array TypeId)[1]? = some u := rfl
 have hargs : evL E (Sx nt b L rb R esc (g.ext os (accT xs))) [x, y] = some [accV f g.toks.length inf.size xs, w] := by simp only [evL, evS hx, evS hy]
 have hrw := rows_rd hr (s := Sx nt b L rb R esc (g.ext os (accT xs))) (n := inf.size)
 have step : ∀ r, (Sx nt b L rb R esc (g.ext os (accT xs))).append E (some d) e (accV f g.toks.length inf.size xs) w = some r →
   stepV E (Sx nt b L rb R esc (g.ext os (accT xs))) ⟨some d, .call { callee := .builtin .append, args := #[x, y], argTypes := #[t, u] }, ty, pos, after, gd⟩ = some r := by
  intro r hr
  simp only [stepV, hargs, a0, a1, he, hu]
  exact hr
 refine step _ ?_
 cases ys with
 | nil =>
  unfold St.append
  simp only [hinf, hz, hrw, List.map_nil, List.append_nil]
  cases xs <;> rfl
 | cons y ys =>
  simp only [List.map_cons] at hrw
  have hall := all_rowOk (xs := y :: ys) hl
  simp only [List.map_cons] at hall
  have hok : ¬ (inf.size = 0 ∨ inf.bytes = 0 ∨ z.length ≠ inf.size ∨ ¬ ((f y).map V.p :: ys.map fun a => (f a).map V.p).all (rowOk inf.size) = true) := by
   rw [hall]; simp only [not_true_eq_false, or_false]; omega
  cases xs with
  | nil =>
   rw [show accV f g.toks.length inf.size [] = .p .nilsl from rfl, append_nil (dst := some d) hinf hz hrw hnb hok (by simpa using hn)]
   simp [Sx, G.ext, accV, accT]
  | cons x xs =>
   have hall2 := all_rowOk (xs := x :: xs) hl
   have htok : (Sx nt b L rb R esc (g.ext os (accT (x :: xs)))).g.toks[g.toks.length]? = some (x :: xs).length := by
    have := ext_tok (g := g) (os := os) (ts := accT (x :: xs)) (i := 0)
    rw [Nat.add_zero] at this
    exact this
   rw [show accV f g.toks.length inf.size (x :: xs) = .sl ((x :: xs).map fun a => (f a).map .p) (.own g.toks.length (x :: xs).length inf.size) from rfl,
    append_own hinf hz hrw hok (by simpa using hn) hall2 htok]
   have e1 : (g.toks ++ [xs.length + 1]).set g.toks.length (xs.length + 1 + (ys.length + 1)) = g.toks ++ [xs.length + (ys.length + 1) + 1] := by
    rw [List.set_append_right _ _ (Nat.le_refl _)]
    simp
    omega
   simp only [Sx, G.ext, accV, accT, List.cons_append, List.map_cons, List.map_append, List.length_cons, List.length_append, List.length_map, hwt, e1, Nat.min_self]
   rw [show xs.length + 1 + (ys.length + 1) = xs.length + (ys.length + 1) + 1 by omega]
end
end Go.Vm
namespace Go.Vm
open Go
theorem loop_toList (s : ByteArray) : s.toList = s.data.toList := ByteArray.toList_eq s
def leadP {α : Type} (p : α → Bool) : List α → Nat
 | [] => 0
 | c :: l => if p c then leadP p l + 1 else 0
theorem leadP_eq {α : Type} (p : α → Bool) (l : List α) (j : Nat) (h : ∀ i, i < j → ∃ c, l[i]? = some c ∧ p c = true) (h2 : ∀ c, l[j]? = some c → p c = false) : leadP p l = j := by
 induction l generalizing j with
 | nil =>
  cases j with
  | zero => rfl
  | succ j => obtain ⟨c, hc, _⟩ := h 0 (by omega); simp at hc
 | cons c l ih =>
  cases j with
  | zero => have := h2 c (by simp); simp [leadP, this]
  | succ j =>
   obtain ⟨c', hc, hp⟩ := h 0 (by omega)
   simp at hc; subst hc
   simp only [leadP, hp, if_true]
   rw [ih j (fun i hi => by simpa using h (i + 1) (by omega)) (fun c hc => h2 c (by simpa using hc))]
theorem leadP_up {α : Type} {l : List α} {p : α → Bool} {j : Nat} (hr : ∀ i, i < j → ∃ c, l[i]? = some c ∧ p c = true) {c : α} (h : l[j]? = some c) (h1 : p c = true) : ∀ i, i < j + 1 → ∃ c, l[i]? = some c ∧ p c = true := by
 intro i hi
 by_cases e : i = j
 ·subst e; exact ⟨c, h, h1⟩
 ·exact hr i (by omega)
theorem leadP_lt {α : Type} (p : α → Bool) (l : List α) : (leadP p l < l.length) ↔ l.any (fun a => !p a) = true := by
 induction l with
 | nil => simp [leadP]
 | cons c l ih =>
  simp only [leadP, List.length_cons, List.any_cons, Bool.or_eq_true, Bool.not_eq_true', ← ih]
  cases hp : p c with
  | true => simp;
  | false => simp
def idxP {α : Type} (p : α → Bool) (l : List α) : Int := if leadP (fun a => !p a) l < l.length then (leadP (fun a => !p a) l : Int) else -1
theorem idxP_ge {α : Type} (p : α → Bool) (l : List α) : (decide (idxP p l ≥ 0)) = l.any p := by
 have := leadP_lt (fun a => !p a) l
 simp only [Bool.not_not] at this
 unfold idxP
 rw [Bool.eq_iff_iff]
 by_cases h : leadP (fun a => !p a) l < l.length
 ·rw [if_pos h]; simp only [this.1 h, iff_true]; simp
 ·rw [if_neg h]
  have h2 : ¬ l.any p = true := fun e => h (this.2 e)
  simp only [h2]; simp
theorem idxP_at {α : Type} {p : α → Bool} {l : List α} {j : Nat} (hr : ∀ i, i < j → ∃ c, l[i]? = some c ∧ (!p c) = true) {c : α} (h : l[j]? = some c) (h1 : p c = true) : idxP p l = j := by
 have hj := (List.getElem?_eq_some_iff.1 h).1
 have := leadP_eq (fun a => !p a) l j hr (fun c' hc => by rw [h] at hc; cases hc; simp [h1])
 unfold idxP; rw [this, if_pos hj]
theorem idxP_no {α : Type} {p : α → Bool} {l : List α} (hr : ∀ i, i < l.length → ∃ c, l[i]? = some c ∧ (!p c) = true) : idxP p l = -1 := by
 have := leadP_eq (fun a => !p a) l l.length hr (fun c' hc => by have := (List.getElem?_eq_some_iff.1 hc).1; omega)
 unfold idxP; rw [this, if_neg (by omega)]
def wordsL : List ByteArray := [⟨#[102, 117, 110]⟩, ⟨#[108, 101, 116]⟩, ⟨#[114, 101, 99]⟩, ⟨#[105, 110]⟩, ⟨#[105, 102]⟩, ⟨#[116, 104, 101, 110]⟩, ⟨#[101, 108, 115, 101]⟩, ⟨#[99, 97, 115, 101]⟩, ⟨#[111, 102]⟩, ⟨#[101, 110, 100]⟩, ⟨#[116, 114, 117, 101]⟩, ⟨#[102, 97, 108, 115, 101]⟩, ⟨#[105, 110, 116]⟩, ⟨#[98, 111, 111, 108]⟩, ⟨#[115, 116, 114]⟩, ⟨#[102, 108, 111, 97, 116]⟩, ⟨#[100, 121, 110]⟩, ⟨#[97, 110, 121]⟩, ⟨#[110, 111, 110, 101]⟩, ⟨#[116, 121, 112, 101]⟩]
def isWordB (s : ByteArray) : Bool := wordsL.any (fun w => s.toList == w.toList)
def isNameB (s : ByteArray) : Bool :=
 match s.data.toList with
 | [] => false
 | c :: _ => lowB c && runN inNameB s.data.toList == s.size && !isWordB s
def tagB (s : ByteArray) : Bool := isNameB s || isWordB s
theorem empty_iff (s : ByteArray) : (s.toList == (ByteArray.mk #[]).toList) = decide (s.size = 0) := by
 rw [Bool.eq_iff_iff]
 simp only [beq_iff_eq, decide_eq_true_eq]
 rw [loop_toList, loop_toList]
 show s.data.toList = [] ↔ s.data.size = 0
 rw [← Array.length_toList, List.length_eq_zero_iff]
end Go.Vm
namespace Go.Vm
open Go
theorem ba_beq (a b : ByteArray) : (a == b) = true ↔ a = b := by
 show (a.data == b.data) = true ↔ a = b
 rw [beq_iff_eq]
 exact ByteArray.ext_iff.symm
instance lawfulBytes : LawfulBEq ByteArray where
 eq_of_beq h := (ba_beq _ _).1 h
 rfl := (ba_beq _ _).2 rfl
def esS (l : List ByteArray) : List (PV × V × Nat) := l.zipIdx.map fun x => (.str x.1, .p (.bool true), x.2)
theorem esS_snoc (l : List ByteArray) (s : ByteArray) : esS (l ++ [s]) = esS l ++ [(.str s, .p (.bool true), l.length)] := by
 simp [esS, List.zipIdx_append]
theorem esS_ok (l : List ByteArray) : (esS l).all (fun e => keyOk .string e.1) = true := by
 rw [List.all_eq_true]
 intro e he
 obtain ⟨x, _, rfl⟩ := List.mem_map.1 he
 rfl
theorem find_esS (l : List ByteArray) (s : ByteArray) : findKey (esS l) (.str s) = if s ∈ l then some (V.p (.bool true)) else none := by
 have key : ∀ (l : List ByteArray) (n : Nat), findKey ((l.zipIdx n).map fun x => ((.str x.1, .p (.bool true), x.2) : PV × V × Nat)) (.str s) = if s ∈ l then some (V.p (.bool true)) else none := by
  intro l
  induction l with
  | nil => intro n; simp [findKey]
  | cons a l ih =>
   intro n
   simp only [List.zipIdx_cons, List.map_cons, findKey, keyEq, List.mem_cons]
   by_cases h : s = a
   ·simp [h]
   ·have : (s == a) = false := by simpa using h
    simp only [this, Bool.false_eq_true, if_false, h, false_or]
    exact ih (n + 1)
 exact key l 0
theorem findS (l : List ByteArray) (s : ByteArray) : (match findKey (esS l) (.str s) with | some v => (if false then .tup [v, .p (.bool true)] else v) | none => (if false then .tup [.p (.bool false), .p (.bool false)] else .p (.bool false))) = V.p (.bool (decide (s ∈ l))) := by
 rw [find_esS]
 by_cases h : s ∈ l <;> simp [h]
theorem findS_no {l : List ByteArray} {s : ByteArray} (h : decide (s ∈ l) = false) : findKey (esS l) (.str s) = none := by
 rw [find_esS, if_neg (by simpa using h)]
theorem esS_take {a : List ByteArray} {j : Nat} (h : j < a.length) : esS (a.take (j + 1)) = esS (a.take j) ++ [(.str a[j], .p (.bool true), j)] := by
 rw [List.take_succ_eq_append_getElem h, esS_snoc]
 simp [Nat.min_eq_left (Nat.le_of_lt h)]
theorem nodup_take {a : List ByteArray} {j : Nat} (h : j < a.length) (hn : (a.take j).Nodup) (hm : decide (a[j] ∈ a.take j) = false) : (a.take (j + 1)).Nodup := by
 rw [List.take_succ_eq_append_getElem h, List.nodup_append]
 refine ⟨hn, by simp, fun x hx y hy => ?_⟩
 simp at hy
 subst hy
 rintro rfl
 simp at hm
 exact hm hx
theorem nodup_not {a : List ByteArray} {j : Nat} (h : j < a.length) (hm : decide (a[j] ∈ a.take j) = true) : decide a.Nodup = false := by
 simp at hm ⊢
 intro hn
 have : a = a.take j ++ a.drop j := (List.take_append_drop j a).symm
 rw [this, List.nodup_append] at hn
 exact hn.2.2 a[j] hm a[j] (by rw [List.drop_eq_getElem_cons h]; exact List.mem_cons_self) rfl
end Go.Vm
namespace Go.Vm
open Go
structure TNode where
  kind : Int
  pos : Int
  name : ByteArray
  names : Sl ByteArray
  kids : Sl Int
  op : Bool
def TNode.enc (n : TNode) : List PV := [.int .i64 n.kind, .int .i64 n.pos, .str n.name, n.names.enc eStr, n.kids.enc eInt, .bool n.op]
structure TNode.ok (n : TNode) : Prop where
  names : n.names.l.length < 2 ^ 60
  kids : n.kids.l.length < 2 ^ 60
  each : ∀ s, s ∈ n.names.l → s.size < 2 ^ 60
def emptyB (s : ByteArray) : Bool := s.toList == (ByteArray.mk #[]).toList
def TNode.typB (n : TNode) : Bool :=
  !(n.op && !(n.kind == 9)) &&
  (if n.kind = 7 then emptyB n.name && ((n.names.l.length : Int) == 0) && ((n.kids.l.length : Int) == 2)
   else if n.kind = 8 then emptyB n.name && ((n.names.l.length : Int) == n.kids.l.length) && decide n.names.l.Nodup && n.names.l.all isNameB
   else if n.kind = 9 then emptyB n.name && ((n.names.l.length : Int) == n.kids.l.length) && decide n.names.l.Nodup && n.names.l.all tagB
   else decide (n.kind ≥ 0) && decide (n.kind ≤ 6) && emptyB n.name && ((n.names.l.length : Int) + (n.kids.l.length : Int) == 0))
structure Head where
  kind : Int
  names : Sl ByteArray
  kids : Sl Int
  op : Bool
def Head.enc (h : Head) : List PV := [.int .i64 h.kind, h.names.enc eStr, h.kids.enc eInt, .bool h.op]
end Go.Vm
