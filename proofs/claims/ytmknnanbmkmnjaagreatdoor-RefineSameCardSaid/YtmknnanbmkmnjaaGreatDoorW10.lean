/- Part 10 of the texts that the claim leans on: a judgement on the program over plain values, its soundness, and contracts of functions. -/
import Derived.Test.YtmknnanbmkmnjaaGreatDoorW9
import Derived.Shelf.SortM.Plain
import Derived.Shelf.Strconv.Itoa3
import Derived.RowKit3
import Derived.ChangeOld
import Derived.Shelf.SlSortCmp.Whole1
set_option linter.unusedVariables false
set_option linter.unusedSimpArgs false
set_option linter.unusedVariables false
namespace Go.Vm
open Go
def G.upd (g : G) (id : Nat) (o : Ob) : G := { g with objs := g.objs.set id o }
theorem ext_upd {g : G} {os : List Ob} {ts : List Nat} {i : Nat} {o : Ob} : (g.ext os ts).upd (g.objs.length + i) o = g.ext (os.set i o) ts := by
 simp only [G.ext, G.upd]
 congr 1
 rw [List.set_append_right _ _ (by omega)]; simp
def G.at' (g : G) (id : Nat) (o : Ob) (w : Nat) : G := ⟨g.objs.set id o, g.toks, w, g.toks.length⟩
section
variable {E : Env} {qt : Bool} {ops : Array Oper} {l : List Oper} {K : St → Prop}
variable {nt : Nat} {b : Nat → V} {L : List (Nat × V)} {rb : Nat → Option (Nat × List V)} {R : List (Nat × (Nat × List V))} {esc : Nat → Bool} {g : G} {os : List Ob} {ts : List Nat}
variable {d : Nat} {ty : TypeId} {pos : String} {after : Array Edge} {gd : Option (Nat × Bool)} {op : Op}
theorem x_stO {t : TypeId} {x y : Operand} {id off : Nat} {cs : List V} {v : V} (h : wX ops nt L gd = some true) (hx : evX E L x = some (.ptr id off)) (hy : evX E L y = some v) (hz : sz E t = some 1) (hc : cellsOf v = [v]) (h1 : one v = true)
  (ho : g.objs[id]? = some (.cells cs)) (hlt : off < cs.length) (k : wpL E qt ops l (Sx nt b L rb R esc (g.setObj id (.cells (cs.set off v)))) K) :
  wpL E qt ops (⟨none, .store t x y, ty, pos, after, gd⟩ :: l) (Sx nt b L rb R esc g) K := by
 refine x_op0 (v := .undef) h rfl ?_ k
 have hg : (Sx nt b L rb R esc g).g.objs[id]? = some (.cells cs) := ho
 simp only [stepV, evS hx, evS hy, hz, hc, List.length_singleton, if_true, St.storeCells, List.all_cons, h1, List.all_nil, Bool.and_true, hg, put?_one hlt, Option.map_some]
 rfl
theorem x_callM {fn : FuncId} {args : Array Operand} {ats : Array TypeId} {vs : List V} {r : V} {g2 : G} (h : wX ops nt L gd = some true) (hd : Nat.blt d nt = true) (ha : evXs E L args.toList = some vs) (ho : (vs.flatMap cellsOf).all one = true) (hf : okFn E fn = true) (hp : CallsAt E g fn vs r g2)
  (k : wpL E false ops l (Sx nt b ((d, r) :: L) rb R esc g2) K) : wpL E false ops (⟨some d, .call { callee := .value (.func fn), args := args, argTypes := ats }, ty, pos, after, gd⟩ :: l) (Sx nt b L rb R esc g) K := by
 exact wpl_callM (wX_ok h) (blt hd) (evXs_ok ha) ho hf hp (fun e => by cases e) (by rw [ofL_upd]; exact k)
end
section
variable {E : Env}
theorem keep_walk {f : FuncId} {fn : Func} {body : Code} {args : List V} {r : V} {g0 g2 : G} (L : List (Nat × V)) (hf : E.P.funcs[f]? = some fn) (hb : fn.body = some body) (ha : Nat.ble args.length fn.ntmps = true)
  (hL : L = (List.range args.length).map fun i => (i, args.getD i .undef))
  (h : ∀ g, g = { g0 with wo := g0.objs.length, wt := g0.toks.length } → Wc E (fun e s' => (e = .normal ∨ e = .ret) ∧ ∃ vs, resOf E s' fn.results.toList = some vs ∧ pack vs = r ∧ G.mk s'.g.objs s'.g.toks (min g0.wo s'.g.wo) (min g0.wt s'.g.wt) = g2) body []
   (Sx fn.ntmps (fun _ => .undef) L (fun _ => none) [] (E.esc f) g)) : CallsAt E g0 f args r g2 := by
 have hw := h _ rfl
 unfold Sx at hw
 have e : ofL (fun _ => .undef) L = (fun t => args.getD t .undef) := by funext t; rw [hL, args_of]
 rw [e] at hw
 refine .fnKeep _ hf hb (Nat.le_of_ble_eq_true ha) hw fun e s' hq => ?_
 obtain ⟨h1, vs, h2, h3, h4⟩ := hq
 exact ⟨h1, vs, h2, h3, h4⟩
variable {nt : Nat} {b : Nat → V} {L : List (Nat × V)} {rb : Nat → Option (Nat × List V)} {R : List (Nat × (Nat × List V))} {esc : Nat → Bool} {g : G}
theorem x_endK {e : X} {t : Nat} {v r : V} {rs : List ResultVar} {g0 g2 : G} (he : e = .normal ∨ e = .ret) (hrs : rs = [.tmp t]) (hv : getL L t = some v) (h1 : (cellsOf v).all one = true) (hg : G.mk g.objs g.toks (min g0.wo g.wo) (min g0.wt g.wt) = g2) (hr : v = r) :
  (e = .normal ∨ e = .ret) ∧ ∃ vs, resOf E (Sx nt b L rb R esc g) rs = some vs ∧ pack vs = r ∧ G.mk (Sx nt b L rb R esc g).g.objs (Sx nt b L rb R esc g).g.toks (min g0.wo (Sx nt b L rb R esc g).g.wo) (min g0.wt (Sx nt b L rb R esc g).g.wt) = g2 := by
 subst hrs
 refine ⟨he, [v], ?_, hr, hg⟩
 have : (Sx nt b L rb R esc g).tm t = v := getL_of hv
 simp only [resOf, this, h1, if_true]
inductive Pl where
 | fin
 | seg (l : List Nat) (p : Pl)
 | adr (i : Nat) (ad : List (Nat × Bool)) (p : Pl)
 | two (i j : Nat) (p q : Pl)
def Pl.depth : Pl → Nat
 | .fin => 0
 | .seg l p => l.length + p.depth
 | .adr _ _ p => p.depth + 1
 | .two _ _ p q => 1 + max p.depth q.depth
def segT (ops : Array Oper) (esc : Nat → Bool) (tab : List Nat) : Nat → List Nat → Option Nat
 | mask, [] => some mask
 | mask, i :: l => match firstSafe false (fun _ => true) esc ops tab mask (readyM mask 0 ops.toList) with
  | some (j, []) => bif Nat.beq i j then segT ops esc tab (mask ||| 2 ^ i) l else none
  | _ => none
def plT (ops : Array Oper) (esc : Nat → Bool) (tab : List Nat) : Nat → Pl → Bool
 | mask, .fin => match readyM mask 0 ops.toList with
  | [] => true
  | _ => false
 | mask, .seg l p => match segT ops esc tab mask l with
  | some m => l.all (fun i => Nat.blt i ops.size) && plT ops esc tab m p
  | none => false
 | mask, .adr i ad p => decide (firstSafe false (fun _ => true) esc ops tab mask (readyM mask 0 ops.toList) = some (i, ad)) && Nat.blt i ops.size && plT ops esc tab (mask ||| 2 ^ i) p
 | mask, .two i j p q => (match readyM mask 0 ops.toList with
  | [a, c] => Nat.beq a i && Nat.beq c j && !Nat.beq i j
  | _ => false) && (Nat.blt i ops.size && Nat.blt j ops.size) && plT ops esc tab (mask ||| 2 ^ i) p && plT ops esc tab (mask ||| 2 ^ j) q
def adrT (E : Env) (ops : Array Oper) (s : St) (i : Nat) (ad : List (Nat × Bool)) : Bool := match ops[i]? with
 | some a => addrsOk E ops s a ad
 | none => false
def wpT (E : Env) (ops : Array Oper) : Pl → St → (St → Prop) → Prop
 | .fin, s, K => K s
 | .seg l p, s, K => wpO E true ops l s fun s' => wpT E ops p s' K
 | .adr i ad p, s, K => adrT E ops s i ad = true ∧ wpO E true ops [i] s fun s' => wpT E ops p s' K
 | .two i j p q, s, K => wpO E true ops [i] s (fun s' => wpT E ops p s' K) ∧ wpO E true ops [j] s fun s' => wpT E ops q s' K
theorem wpO_do {ops : Array Oper} {i : Nat} {l : List Nat} {s : St} {K : St → Prop} (h : wpO E true ops (i :: l) s K) : ∃ s', Do E (fun _ => true) ops i s s' ∧ wpO E true ops l s' K ∧ ∃ o, ops[i]? = some o := by
 unfold wpO at h
 split at h
 ·cases h
 ·rename_i o hoo
  split at h
  ·cases h
  ·rename_i hw
   split at h
   ·cases h
   ·rename_i s' hp; exact ⟨s', .skip hoo hw hp, h, o, hoo⟩
  ·rename_i hw
   split at h
   ·rename_i f args hc
    obtain ⟨r, g2, hr, hg2, h⟩ := h
    split at h
    ·cases h
    ·rename_i s' hp
     exact ⟨s', .call (v := r) (g := g2) hoo hw hc hr (fun _ => hg2 rfl) hp, h, o, hoo⟩
   ·split at h
    ·cases h
    ·rename_i v s1 hs
     split at h
     ·cases h
     ·rename_i s' hp; exact ⟨s', .step hoo hw hs hp, h, o, hoo⟩
theorem seg_evM {ops : Array Oper} {esc : Nat → Bool} {tab : List Nat} {Q : St → Prop} : ∀ (l : List Nat) (mask m n : Nat) (s : St) (K : St → Prop), segT ops esc tab mask l = some m → wpO E true ops l s K →
  (∀ s', K s' → EvM E (fun _ => true) esc ops tab Q n m s') → EvM E (fun _ => true) esc ops tab Q (l.length + n) mask s := by
 intro l
 induction l with
 | nil => intro mask m n s K hm h hk; simp only [segT, Option.some.injEq] at hm; subst hm; simpa using hk _ h
 | cons i l ih =>
  intro mask m n s K hm h hk
  unfold segT at hm
  split at hm
  ·rename_i j hf
   cases hb : Nat.beq i j with
   | false => rw [hb] at hm; cases hm
   | true =>
    rw [hb] at hm
    simp only [cond_true] at hm
    have := Nat.eq_of_beq_eq_true hb
    subst this
    obtain ⟨s', hd, hw, o, ho⟩ := wpO_do h
    have := ih _ m n s' K hm hw hk
    rw [List.length_cons, show l.length + 1 + n = l.length + n + 1 by omega]
    exact .one false hf ho rfl hd this
  ·cases hm
theorem EvM.more {cl : Nat → Bool} {esc : Nat → Bool} {ops : Array Oper} {tab : List Nat} {Q : St → Prop} {n mask : Nat} {s : St} (h : EvM E cl esc ops tab Q n mask s) : ∀ m, n ≤ m → EvM E cl esc ops tab Q m mask s := by
 induction h with
 | done a c => intro m _; exact .done a c
 | one st a c d e _ ih =>
  intro m hm
  obtain ⟨m, rfl⟩ : ∃ k, m = k + 1 := ⟨m - 1, by omega⟩
  exact .one st a c d e (ih m (by omega))
 | all f a c _ ih =>
  intro m hm
  obtain ⟨m, rfl⟩ : ∃ k, m = k + 1 := ⟨m - 1, by omega⟩
  exact .all f a c fun i hi => ih i hi m (by omega)
theorem wpT_evM {ops : Array Oper} {esc : Nat → Bool} {tab : List Nat} {Q : St → Prop} : ∀ (p : Pl) (mask : Nat) (s : St) (K : St → Prop), (∀ s', K s' → Q s') → plT ops esc tab mask p = true → wpT E ops p s K → EvM E (fun _ => true) esc ops tab Q p.depth mask s := by
 intro p
 induction p with
 | fin =>
  intro mask s K hK ht h
  unfold plT at ht
  split at ht
  ·rename_i hr; exact .done hr (hK _ h)
  ·cases ht
 | seg l p ih =>
  intro mask s K hK ht h
  unfold plT at ht
  split at ht
  ·rename_i m hm
   rw [Bool.and_eq_true] at ht
   exact seg_evM l mask m _ s _ hm h fun s' hs => ih m s' K hK ht.2 hs
  ·cases ht
 | adr i ad p ih =>
  intro mask s K hK ht h
  unfold plT at ht
  simp only [Bool.and_eq_true, decide_eq_true_eq] at ht
  obtain ⟨⟨h1, _⟩, h2⟩ := ht
  obtain ⟨ha, h⟩ := h
  obtain ⟨s', hd, hw, o, ho⟩ := wpO_do h
  unfold adrT at ha
  rw [ho] at ha
  exact .one false h1 ho ha hd (ih _ s' K hK h2 hw)
 | two i j p q ihp ihq =>
  intro mask s K hK ht h
  unfold plT at ht
  simp only [Bool.and_eq_true] at ht
  obtain ⟨⟨⟨h1, _⟩, h2⟩, h3⟩ := ht
  split at h1
  ·rename_i a c hr
   simp only [Bool.and_eq_true, Bool.not_eq_true'] at h1
   obtain ⟨⟨ha, hc⟩, hne⟩ := h1
   have ha := Nat.eq_of_beq_eq_true ha
   have hc := Nat.eq_of_beq_eq_true hc
   subst ha hc
   obtain ⟨s1, hd1, hw1, _⟩ := wpO_do h.1
   obtain ⟨s2, hd2, hw2, _⟩ := wpO_do h.2
   have e1 := (ihp _ s1 K hK h2 hw1).more (max p.depth q.depth) (Nat.le_max_left _ _)
   have e2 := (ihq _ s2 K hK h3 hw2).more (max p.depth q.depth) (Nat.le_max_right _ _)
   show EvM E _ esc ops tab Q (1 + max p.depth q.depth) mask s
   rw [Nat.add_comm]
   have hij : c ≠ a := fun e => by rw [e, Nat.beq_refl] at hne; cases hne
   refine .all (fun k => if k = a then s1 else s2) (by rw [hr]; simp) (fun k hk => ?_) fun k hk => ?_
   ·rw [hr] at hk
    simp only [List.mem_cons, List.not_mem_nil, or_false] at hk
    rcases hk with rfl | rfl
    ·simpa using hd1
    ·simpa [hij] using hd2
   ·rw [hr] at hk
    simp only [List.mem_cons, List.not_mem_nil, or_false] at hk
    rcases hk with rfl | rfl
    ·simpa using e1
    ·simpa [hij] using e2
  ·cases h1
def wpTL (E : Env) (ops : Array Oper) : Pl → St → (St → Prop) → Prop
 | .fin, s, K => K s
 | .seg l p, s, K => wpL E true ops (l.filterMap (ops[·]?)) s fun s' => wpTL E ops p s' K
 | .adr i ad p, s, K => adrT E ops s i ad = true ∧ wpL E true ops ([i].filterMap (ops[·]?)) s fun s' => wpTL E ops p s' K
 | .two i j p q, s, K => wpL E true ops ([i].filterMap (ops[·]?)) s (fun s' => wpTL E ops p s' K) ∧ wpL E true ops ([j].filterMap (ops[·]?)) s fun s' => wpTL E ops q s' K
theorem wpO_mono {ops : Array Oper} : ∀ {l : List Nat} {s : St} {K K' : St → Prop}, (∀ s', K s' → K' s') → wpO E true ops l s K → wpO E true ops l s K' := by
 intro l
 induction l with
 | nil => intro s K K' hk h; exact hk _ h
 | cons i l ih =>
  intro s K K' hk h
  unfold wpO at h ⊢
  split at h
  ·cases h
  ·split at h
   ·cases h
   ·split at h
    ·cases h
    ·rename_i hp; first | exact ih hk h | (rw [hp]; exact ih hk h)
   ·split at h
    ·obtain ⟨r, g2, hr, hg2, h⟩ := h
     refine ⟨r, g2, hr, hg2, ?_⟩
     split at h
     ·cases h
     ·rename_i hp; first | exact ih hk h | (rw [hp]; exact ih hk h)
    ·split at h
     ·cases h
     ·split at h
      ·cases h
      ·rename_i hp; first | exact ih hk h | (rw [hp]; exact ih hk h)
theorem wpTL_wpT {ops : Array Oper} {esc : Nat → Bool} {tab : List Nat} : ∀ (p : Pl) (mask : Nat) (s : St) (K : St → Prop), plT ops esc tab mask p = true → wpTL E ops p s K → wpT E ops p s K := by
 intro p
 induction p with
 | fin => intro _ s K _ h; exact h
 | seg l p ih =>
  intro mask s K ht h
  unfold plT at ht
  split at ht
  ·rename_i m hm
   rw [Bool.and_eq_true] at ht
   exact wpO_mono (fun s' hs => ih m s' K ht.2 hs) (wpL_wpO _ _ (fun i hi => Nat.le_of_ble_eq_true (List.all_eq_true.1 ht.1 i hi)) h)
  ·cases ht
 | adr i ad p ih =>
  intro mask s K ht h
  unfold plT at ht
  simp only [Bool.and_eq_true] at ht
  obtain ⟨⟨_, h1⟩, h2⟩ := ht
  refine ⟨h.1, wpO_mono (fun s' hs => ih _ s' K h2 hs) (wpL_wpO _ _ (fun k hk => ?_) h.2)⟩
  simp only [List.mem_singleton] at hk; subst hk; exact Nat.le_of_ble_eq_true h1
 | two i j p q ihp ihq =>
  intro mask s K ht h
  unfold plT at ht
  simp only [Bool.and_eq_true] at ht
  obtain ⟨⟨⟨_, h1⟩, h2⟩, h3⟩ := ht
  refine ⟨wpO_mono (fun s' hs => ihp _ s' K h2 hs) (wpL_wpO _ _ (fun k hk => ?_) h.1), wpO_mono (fun s' hs => ihq _ s' K h3 hs) (wpL_wpO _ _ (fun k hk => ?_) h.2)⟩
  ·simp only [List.mem_singleton] at hk; subst hk; exact Nat.le_of_ble_eq_true h1.1
  ·simp only [List.mem_singleton] at hk; subst hk; exact Nat.le_of_ble_eq_true h1.2
variable {Q : X → St → Prop} {ks : List Ko}
theorem xc_drwP {id : Nat} {ops : Array Oper} (p : Pl) (hm : E.P.follows .mixedOrders = true)
  (ho : (tabOk ops (aheads ops) && Nat.ble p.depth ops.size && plT ops esc (aheads ops) 0 p) = true)
  (h : ∀ K : St → Prop, (∀ s', Go' E Q ks .normal s' → K s') → wpTL E ops p (Sx nt b L rb R esc g) K) : Wc E Q (.region id ops true) ks (Sx nt b L rb R esc g) := by
 simp only [Bool.and_eq_true] at ho
 exact EvM.sound hm ho.1.1 ((wpT_evM p 0 _ _ (fun _ h => h) ho.2 (wpTL_wpT p 0 _ _ ho.2 (h _ fun _ h => h))).more _ (Nat.le_of_ble_eq_true ho.1.2))
theorem xc_drwPX {σ : Type} {id : Nat} {ops : Array Oper} (p : Pl) (hm : E.P.follows .mixedOrders = true)
  (ho : (tabOk ops (aheads ops) && Nat.ble p.depth ops.size && plT ops esc (aheads ops) 0 p) = true) (Lf : List (Nat × V)) (Rk : List (Nat × (Nat × List V))) (Lw : σ → List (Nat × V)) (Gw : σ → G) (I : σ → Prop) (_hL : subL Lf L) (_hR : subR Rk R)
  (h1 : ∀ K : St → Prop, (∀ x b' L' rb' R' g', I x → subL (Lw x ++ Lf) L' → subR Rk R' → Gw x = g' → K (Sx nt b' L' rb' R' esc g')) → wpTL E ops p (Sx nt b L rb R esc g) K)
  (h2 : ∀ x b rb, I x → Go' E Q ks .normal (Sx nt b (Lw x ++ Lf) rb Rk esc (Gw x))) : Wc E Q (.region id ops true) ks (Sx nt b L rb R esc g) := by
 refine xc_drwP p hm ho fun K hK => h1 K fun x b' L' rb' R' g' hi hl hr hg => ?_
 subst hg
 obtain ⟨b2, rb2, e⟩ := Hd.mk (nt := nt) (b := b') (rb := rb') (esc := esc) (g := Gw x) hl hr
 rw [e]
 exact hK _ (h2 x b2 rb2 hi)
theorem pl_seg {ops : Array Oper} {l : List Nat} {p : Pl} {s : St} {K : St → Prop} (h : wpL E true ops (l.filterMap (ops[·]?)) s fun s' => wpTL E ops p s' K) : wpTL E ops (.seg l p) s K := h
theorem pl_adr {ops : Array Oper} {i : Nat} {ad : List (Nat × Bool)} {p : Pl} {s : St} {K : St → Prop} (h1 : adrT E ops s i ad = true) (h : wpL E true ops ([i].filterMap (ops[·]?)) s fun s' => wpTL E ops p s' K) : wpTL E ops (.adr i ad p) s K := ⟨h1, h⟩
theorem pl_two {ops : Array Oper} {i j : Nat} {p q : Pl} {s : St} {K : St → Prop} (h1 : wpL E true ops ([i].filterMap (ops[·]?)) s fun s' => wpTL E ops p s' K) (h2 : wpL E true ops ([j].filterMap (ops[·]?)) s fun s' => wpTL E ops q s' K) : wpTL E ops (.two i j p q) s K := ⟨h1, h2⟩
theorem pl_end {ops : Array Oper} {p : Pl} {s : St} {K : St → Prop} (h : wpTL E ops p s K) : wpL E true ops [] s (fun s' => wpTL E ops p s' K) := h
theorem pl_fin {ops : Array Oper} {s : St} {K : St → Prop} (h : K s) : wpTL E ops .fin s K := h
end
end Go.Vm
namespace Go.Vm
open Go
def eI (n : Int) : V := .p (.int .i64 n)
def incW (n : Int) : Int := IntKind.i64.wrap (n + 1)
def upI (us : List Int) (k : Int) : List Int := us.set k.toNat (incW (us.getD k.toNat 0))
def noteP (us : List Int) (below : Int) : List Int → Bool × List Int
 | [] => (true, us)
 | k :: ks => if k < 0 ∨ below ≤ k then (false, us) else noteP (upI us k) below ks
theorem noteP_len {us : List Int} {below : Int} {ks : List Int} : (noteP us below ks).2.length = us.length := by
 induction ks generalizing us with
 | nil => rfl
 | cons k ks ih =>
  unfold noteP
  split
  ·rfl
  ·rw [ih]; simp [upI]
theorem noteP_bad {us : List Int} {below : Int} {ks : List Int} {j : Nat} {us0 : List Int} {ks0 : List Int} (hj : j < ks.length) (he : noteP us0 below ks0 = noteP us below (ks.drop j)) (h : ks[j] < 0 ∨ below ≤ ks[j]) : noteP us0 below ks0 = (false, us) := by
 rw [he, List.drop_eq_getElem_cons hj]
 unfold noteP
 rw [if_pos h]
theorem noteP_up {us : List Int} {below : Int} {ks : List Int} {j : Nat} {us0 : List Int} {ks0 : List Int} (hj : j < ks.length) (he : noteP us0 below ks0 = noteP us below (ks.drop j)) (h1 : 0 ≤ ks[j]) (h2 : ks[j] < below) : noteP us0 below ks0 = noteP (upI us ks[j]) below (ks.drop (j + 1)) := by
 rw [he, List.drop_eq_getElem_cons hj]
 conv => lhs; unfold noteP
 rw [if_neg (by omega)]
theorem noteP_end {us : List Int} {below : Int} {ks : List Int} {j : Nat} {us0 : List Int} {ks0 : List Int} (hj : ks.length ≤ j) (he : noteP us0 below ks0 = noteP us below (ks.drop j)) : noteP us0 below ks0 = (true, us) := by
 rw [he, List.drop_eq_nil_of_le hj]; rfl
theorem at_obj {g : G} {id w : Nat} {o o' : Ob} (h : g.objs[id]? = some o') : (g.at' id o w).objs[id]? = some o := by
 have := (List.getElem?_eq_some_iff.1 h).1
 simp [G.at', this]
theorem at_set {g : G} {id w : Nat} {o o' : Ob} : (g.at' id o w).setObj id o' = g.at' id o' (min w id) := by
 simp [G.at', G.setObj, List.set_set]
theorem at_start {g : G} {id : Nat} {o : Ob} (h : g.objs[id]? = some o) : g.at' id o g.objs.length = { g with wo := g.objs.length, wt := g.toks.length } := by
 have := List.getElem?_eq_some_iff.1 h
 obtain ⟨h1, h2⟩ := this
 simp only [G.at']
 congr 1
 subst h2
 simp
theorem at_end {g : G} {id w : Nat} {o o' : Ob} (hw : g.wo ≤ w) (ht : g.wt ≤ g.toks.length) (he : o = o') : G.mk (g.at' id o w).objs (g.at' id o w).toks (min g.wo (g.at' id o w).wo) (min g.wt (g.at' id o w).wt) = g.upd id o' := by
 subst he
 simp only [G.at', G.upd]
 congr 1 <;> omega
theorem upI_map {us : List Int} {k : Int} (h0 : 0 ≤ k) (h : k < us.length) : (us.map eI).set (0 + k.toNat * 1) (eI (incW (us.getD k.toNat 0))) = (upI us k).map eI := by
 simp [upI, List.map_set]
theorem getI {us : List Int} {k : Int} (h0 : 0 ≤ k) (h : k < us.length) : (us.map eI)[0 + k.toNat * 1]? = some (eI (us.getD k.toNat 0)) := by
 have : k.toNat < us.length := by omega
 simp [this]
theorem getN {us : List Int} {j : Nat} (h : j < us.length) : (us.map eI)[0 + (j : Int).toNat * 1]? = some (eI us[j]) := by
 simp [h]
end Go.Vm
set_option linter.unusedVariables false
namespace Go.Vm
open Go Go.Proofs Go.Sort
def srt (us : List Int) : List Int := us.mergeSort fun x y => decide (x ≤ y)
theorem srt_len (us : List Int) : (srt us).length = us.length := List.length_mergeSort us
theorem put_wrote {w : World} {blk off n : Nat} {d : Array Int} {C : Array Value} {e : TypeId} {fr : Nat × Nat} (h : w.heap[blk]? = some (.cells C e fr)) :
  Wrote w (putRow (Value.int .i64) (Sort.ahead w n) blk off d) blk (.cells (putCells (Value.int .i64) off d C) e fr) := by
 refine ⟨?_, fun c hc => ?_, ?_, rfl, ⟨rfl, Nat.le_add_right _ _⟩, rfl⟩
 ·simp only [putRow, mapBlock, Sort.ahead, Array.getElem?_modify, if_true, h, Option.map_some, onCells]
 ·simp only [putRow, mapBlock, Sort.ahead, Array.getElem?_modify]
  rw [if_neg (fun e => hc e.symm)]
 ·simp [putRow, mapBlock, Sort.ahead]
theorem sortI_sound {E : Env} {ρ : Go.Shelf.Ren} (Ly : SlLaysM.n5 E.P ρ) {g : G} {id cap : Nat} {us : List Int} (ho : g.objs[id]? = some (.cells (us.map eI))) (hu : us.length < 2 ^ 60) :
  Sound E (.call (ρ.f 5) [.arr id 0 us.length cap 1] g fun r g' => r = .tup [] ∧ g' = g.setObj id (.cells ((srt us).map eI))) := by
 intro v w ys W hwo hwt ha
 have hsz : ys.size = 1 := ha.1.symm
 obtain ⟨y, rfl⟩ : ∃ y, ys = #[y] := by
  refine ⟨ys[0], ?_⟩
  apply Array.ext (by simp [hsz])
  intro i h1 h2
  have : i = 0 := by simp at h2; omega
  subst this; simp
 have hy : RepA v (.arr id 0 us.length cap 1) y := ha.2 0 _ _ rfl rfl
 cases hy with
 | cell hy =>
  cases hy with
  | @arr _ _ _ _ _ c a h1 h2 h3 h4 h5 h6 =>
   obtain ⟨b, off, sp⟩ := a
   simp only at h1 h3 h4
   subst h1 h3
   have hO := W.obj id _ ho
   generalize hx : w.heap[v.rho id]? = X at hO
   cases hO with
   | @cells _ ds C e fr hfr hR =>
    have hlt := get_lt hx
    have hCl : C.toList.length = us.length + ds.length := by rw [← hR.1]; simp
    have hoff : us.length ≠ 0 → off = 0 := fun hne => (h4 (by omega)).1
    have hcell : ∀ j (hj : j < us.length), C[off + j]? = some (Value.int .i64 us[j]) := by
     intro j hj
     have h0 := hoff (by omega)
     subst h0
     have e1 : (us.map eI ++ ds)[j]? = some (eI us[j]) := by rw [List.getElem?_append_left (by simpa using hj)]; simp [hj]
     obtain ⟨y, q1, q2⟩ := hR.getElem e1
     rw [Nat.zero_add]
     have q3 : C[j]? = some y := by simpa using q1
     rw [q3]
     cases q2 with
     | p q2 => cases q2; rfl
    have hH : Holds (Value.int .i64) w (v.rho id) off us.toArray := by
     intro j hj
     simp only [List.size_toArray] at hj
     rw [cell_of hx]
     refine ⟨?_, ?_⟩
     ·rw [hcell j hj]; simp [hj]
     ·have h0 := hoff (by omega)
      subst h0
      simp only [World.frozen?, hx]
      have := hfr (0 + j) (by rw [← Array.length_toList, hCl]; omega)
      simpa using this
    refine (AnyM.slices_Sort_int Ly (v.rho id) off c us w hH hlt (by omega)).mono ?_
    rintro en w' ⟨rfl, n, os, rfl⟩
    have hidl := (List.getElem?_eq_some_iff.1 ho).1
    have hd : (us.mergeSort fun x y => decide (x ≤ y)) = srt us := rfl
    rw [hd]
    refine arr_sound W hwo hwt ho rfl (put_wrote (off := off) (n := n) (d := (srt us).toArray) hx) (fun C' e' fr' h => ?_) (.cells (ds := ds) ?_ ?_) ?_ (r := .tup []) (.tup rfl fun i x y h => by simp at h) ⟨rfl, rfl⟩
    ·cases h; exact ⟨C, e, fr, hx, by simp [putCells]⟩
    ·intro i hi; exact hfr i (by simpa [putCells] using hi)
    ·refine ⟨by simp [putCells, srt_len, hCl, ← Array.length_toList], fun i x z hx' hz => ?_⟩
     have hz : (putCells (Value.int .i64) off (srt us).toArray C)[i]? = some z := by simpa using hz
     simp only [putCells, Array.getElem?_mapIdx, Option.map_eq_some_iff] at hz
     obtain ⟨z0, hz0, rfl⟩ := hz
     by_cases hi : i < us.length
     ·have h0 := hoff (by omega)
      subst h0
      rw [if_pos ⟨Nat.zero_le _, by simp [srt_len, hi]⟩]
      have : ((srt us).map eI ++ ds)[i]? = some (eI ((srt us)[i]'(by rw [srt_len]; exact hi))) := by
       rw [List.getElem?_append_left (by simp [srt_len, hi])]; simp [srt_len, hi]
      rw [this] at hx'
      cases hx'
      have hg : ((srt us).toArray)[i - 0]! = (srt us)[i]'(by rw [srt_len]; exact hi) := by
       rw [Nat.sub_zero, getElem!_pos _ i (by simp [srt_len, hi])]; rfl
      rw [hg]
      exact .p .int
     ·have hnot : ¬ (off ≤ i ∧ i < off + (srt us).toArray.size) := by
       rintro ⟨p1, p2⟩
       simp only [List.size_toArray, srt_len] at p2
       by_cases hz : us.length = 0
       ·omega
       ·have := hoff hz; omega
      rw [if_neg hnot]
      refine hR.2 i x z0 ?_ (by simpa using hz0)
      rw [List.getElem?_append_right (by simp [srt_len]; omega)] at hx'
      rw [List.getElem?_append_right (by simp; omega)]
      simpa [srt_len] using hx'
    ·refine ⟨fun b x hb => ?_, ?_, rfl, ⟨rfl, Nat.le_refl _⟩, rfl⟩
     ·simp only [Sort.grow]
      rw [Array.getElem?_append_left (get_lt hb)]
      exact hb
     ·simp [Sort.grow]
end Go.Vm
set_option linter.unusedVariables false
namespace Go.Proofs
open Go.Shelf
def Tryz.sortI_ren : Go.Shelf.Ren := ⟨fun | 5 => 36 | 8 => 63 | 7 => 62 | 19 => 94 | 20 => 95 | 10 => 85 | 11 => 86 | 12 => 87 | 13 => 88 | 14 => 89 | 15 => 90 | 16 => 91 | 17 => 92 | 18 => 93 | 30 => 117 | 31 => 118 | 32 => 119 | 33 => 120 | 34 => 121 | 35 => 110 | 40 => 141 | n => n, fun | 23 => 27 | 25 => 3 | 3 => 3 | 32 => 111 | 22 => 27 | 0 => 0 | 44 => 145 | 46 => 147 | 4 => 4 | 36 => 138 | 35 => 137 | 41 => 82 | 5 => 5 | 9 => 9 | 53 => 172 | 57 => 176 | 63 => 192 | 64 => 193 | n => n, fun | n => n⟩
theorem Tryz.sortI : Go.Proofs.SlLaysM.n5 Tryz.prog Tryz.sortI_ren := {
 mixed := by kernel_rfl
 f5 := ⟨Tryz.f36.name, by decide, Tryz.func36.trans (congrArg some (by kernel_rfl))⟩
 f7 := ⟨Tryz.f62.name, by decide, Tryz.func62.trans (congrArg some (by kernel_rfl))⟩
 f8 := Tryz.func63.trans (congrArg some (by kernel_rfl))
 f10 := ⟨Tryz.f85.name, by decide, Tryz.func85.trans (congrArg some (by kernel_rfl))⟩
 f11 := ⟨Tryz.f86.name, by decide, Tryz.func86.trans (congrArg some (by kernel_rfl))⟩
 f12 := ⟨Tryz.f87.name, by decide, Tryz.func87.trans (congrArg some (by kernel_rfl))⟩
 f13 := ⟨Tryz.f88.name, by decide, Tryz.func88.trans (congrArg some (by kernel_rfl))⟩
 f14 := ⟨Tryz.f89.name, by decide, Tryz.func89.trans (congrArg some (by kernel_rfl))⟩
 f15 := ⟨Tryz.f90.name, by decide, Tryz.func90.trans (congrArg some (by kernel_rfl))⟩
 f16 := ⟨Tryz.f91.name, by decide, Tryz.func91.trans (congrArg some (by kernel_rfl))⟩
 f17 := ⟨Tryz.f92.name, by decide, Tryz.func92.trans (congrArg some (by kernel_rfl))⟩
 f18 := ⟨Tryz.f93.name, by decide, Tryz.func93.trans (congrArg some (by kernel_rfl))⟩
 f19 := Tryz.func94.trans (congrArg some (by kernel_rfl))
 f20 := Tryz.func95.trans (congrArg some (by kernel_rfl))
 f30 := ⟨Tryz.f117.name, by decide, Tryz.func117.trans (congrArg some (by kernel_rfl))⟩
 f31 := Tryz.func118.trans (congrArg some (by kernel_rfl))
 f32 := Tryz.func119.trans (congrArg some (by kernel_rfl))
 f33 := ⟨Tryz.f120.name, by decide, Tryz.func120.trans (congrArg some (by kernel_rfl))⟩
 f34 := ⟨Tryz.f121.name, by decide, Tryz.func121.trans (congrArg some (by kernel_rfl))⟩
 f35 := ⟨Tryz.f110.name, by decide, Tryz.func110.trans (congrArg some (by kernel_rfl))⟩
 f40 := ⟨Tryz.f141.name, by decide, Tryz.func141.trans (congrArg some (by kernel_rfl))⟩
 t0 := Tryz.underlying0
 a0 := Tryz.isAgg0
 z0 := Tryz.sizeOf0
 v0 := Tryz.zeroValue0
 t3 := Tryz.underlying3
 a3 := Tryz.isAgg3
 z3 := Tryz.sizeOf3
 v3 := Tryz.zeroValue3
 t4 := Tryz.underlying4
 a4 := Tryz.isAgg4
 z4 := Tryz.sizeOf4
 v4 := Tryz.zeroValue4
 t5 := Tryz.underlying5
 a5 := Tryz.isAgg5
 z5 := Tryz.sizeOf5
 v5 := Tryz.zeroValue5
 t9 := Tryz.underlying9
 a9 := Tryz.isAgg9
 z9 := Tryz.sizeOf9
 v9 := Tryz.zeroValue9
 t22 := Tryz.underlying27
 a22 := Tryz.isAgg27
 z22 := Tryz.sizeOf27
 v22 := Tryz.zeroValue27
 t23 := Tryz.underlying27
 a23 := Tryz.isAgg27
 z23 := Tryz.sizeOf27
 v23 := Tryz.zeroValue27
 t25 := Tryz.underlying3
 a25 := Tryz.isAgg3
 z25 := Tryz.sizeOf3
 v25 := Tryz.zeroValue3
 t32 := Tryz.underlying111
 a32 := Tryz.isAgg111
 z32 := Tryz.sizeOf111
 v32 := Tryz.zeroValue111
 t35 := Tryz.underlying137
 a35 := Tryz.isAgg137
 z35 := Tryz.sizeOf137
 v35 := Tryz.zeroValue137
 t36 := Tryz.underlying138
 a36 := Tryz.isAgg138
 z36 := Tryz.sizeOf138
 v36 := Tryz.zeroValue138
 t41 := Tryz.underlying82
 a41 := Tryz.isAgg82
 z41 := Tryz.sizeOf82
 v41 := Tryz.zeroValue82
 t44 := Tryz.underlying145
 a44 := Tryz.isAgg145
 z44 := Tryz.sizeOf145
 v44 := Tryz.zeroValue145
 t46 := Tryz.underlying147
 a46 := Tryz.isAgg147
 z46 := Tryz.sizeOf147
 v46 := Tryz.zeroValue147
 t53 := Tryz.underlying172
 a53 := Tryz.isAgg172
 z53 := Tryz.sizeOf172
 v53 := Tryz.zeroValue172
 t57 := Tryz.underlying176
 a57 := Tryz.isAgg176
 z57 := Tryz.sizeOf176
 v57 := Tryz.zeroValue176
 t63 := Tryz.underlying192
 a63 := Tryz.isAgg192
 z63 := Tryz.sizeOf192
 v63 := Tryz.zeroValue192
 t64 := Tryz.underlying193
 a64 := Tryz.isAgg193
 z64 := Tryz.sizeOf193
 v64 := Tryz.zeroValue193
}
end Go.Proofs
namespace Go.Vm
open Go Go.Proofs
theorem fzA_refl : ∀ l : List V, FzA l l
 | [] => .nil
 | _ :: l => .cons (.c .same) (fzA_refl l)
theorem sortI_at {g : G} {id cap : Nat} {us : List Int} (ho : g.objs[id]? = some (.cells (us.map eI))) (hu : us.length < 2 ^ 60) :
  CallsAt En g 36 [.arr id 0 us.length cap 1] (.tup []) (g.setObj id (.cells ((srt us).map eI))) := by
 refine .prim ?_
 exact ⟨_, fzA_refl _, sortI_sound (E := En0) (ρ := Tryz.sortI_ren) Tryz.sortI ho hu⟩
end Go.Vm
set_option linter.unusedVariables false
namespace Go.Vm
open Go Go.Proofs
theorem still_sound {E : Env} {v : Vw} {w w' : World} {g : G} (W : WR E v g w) (hwo : g.wo ≤ g.objs.length) (hwt : g.wt ≤ g.toks.length) (hg : HLe w w') {r : V} {y : Value} (hr : RepV v noLc r y)
  {Q : V → G → Prop} (hq : Q r g) : CallQ E v w g Q (.returned y) w' := by
 have R0 : Rl E v w g v noLc (enter E default 0 [] g) { tmps := (#[] : Array Value) ++ Array.replicate ((default : Func).ntmps - 0) undef, defers := [] } w :=
  enter_ok (args := []) (ys := #[]) W ⟨rfl, fun i x y h => by simp at h⟩ default 0 (Nat.zero_le _)
 have R2 := R0.hle W.base hg
 refine ⟨r, y, v, _, rfl, hq, ?_, hr, R2.S.ext, ⟨_, R2.S, rfl, rfl, ?_, ?_, ?_, ?_⟩⟩
 ·exact W.hle hg
 ·exact hwo
 ·exact Nat.le_refl _
 ·exact hwt
 ·exact Nat.le_refl _
theorem tab_is {E : Env} {v : Vw} {w : World} {g : G} (W : WR E v g w) {nm : String} {gid : Nat} {k : IntKind} {l : List Int} (hn : E.P.globalNamed nm = some gid) (hg : E.glob gid = some (l.map fun m => .p (.int k m))) (hl : 0 < l.length) : Lib.TabIs E.P w nm k l := by
 have R := W.glob gid _ hg
 obtain ⟨C, e, fr, h1, h2⟩ := R.size
 have h3 := R.rep
 have key : ∀ (j : Nat) (m : Int), l[j]? = some m → C[j]? = some (Value.int k m) := by
  intro j m hm
  generalize hrow : (l.map fun m => V.p (.int k m)) = row at h3
  cases h3 with
  | a h3 => cases h3 with | cell h3 => cases h3
  | ref ys cs p1 p2 p3 p4 =>
   subst hrow
   have hne : (l.map fun m => V.p (.int k m)) ≠ [] := by intro e; have := congrArg List.length e; simp at this; rw [this] at hl; simp at hl
   obtain ⟨C', e', fr', q1, q2⟩ := W.sg _ _ (p2 hne)
   rw [h1] at q1
   cases q1
   have hlt := (List.getElem?_eq_some_iff.1 hm).1
   have hy : ∃ y, ys[j]? = some y := ⟨_, List.getElem?_eq_getElem (by rw [← p3.1]; simpa using hlt)⟩
   obtain ⟨y, hy⟩ := hy
   have hr := p3.2 j (.p (.int k m)) y (by rw [List.getElem?_map, hm]; rfl) hy
   have := q2 _ _ (p4 j y hy)
   simp only [Nat.zero_add] at this
   rw [this]
   cases hr with
   | p hr => cases hr; rfl
 have hC : C = (l.map fun z => Value.int k z).toArray := by
  rw [List.length_map] at h2
  apply Array.ext (by simpa using h2)
  intro i i1 i2
  have hi : i < l.length := by omega
  have := key i l[i] (List.getElem?_eq_getElem hi)
  rw [Array.getElem?_eq_getElem i1] at this
  simpa using this
 unfold Lib.TabIs World.var?
 rw [hn, Option.bind_some, h1, hC]
theorem itoa_sound {E : Env} {ρ : Go.Shelf.Ren} (L : LaysM.n171 E.P ρ) {gid : Nat} (hn : E.P.globalNamed "internal/strconv.uint64pow10" = some gid) (hg : E.glob gid = some (Lib.pow10Tab.map fun m => .p (.int .u64 m))) {g : G} {n : Int} (h0 : -9223372036854775808 ≤ n) (h1 : n ≤ 9223372036854775807) :
  Sound E (.call (ρ.f 171) [.p (.int .i64 n)] g fun r g' => r = .p (.str ⟨(Lib.itoa n).toArray⟩) ∧ g' = g) := by
 intro v w ys W hwo hwt ha
 have hsz : ys.size = 1 := ha.1.symm
 obtain ⟨y, rfl⟩ : ∃ y, ys = #[y] := by
  refine ⟨ys[0], ?_⟩
  apply Array.ext (by simp [hsz])
  intro i h1 h2
  have : i = 0 := by simp at h2; omega
  subst this; simp
 have hy : RepA v (.p (.int .i64 n)) y := ha.2 0 _ _ rfl rfl
 cases hy with
 | cell hy =>
  cases hy with
  | p hy =>
   cases hy
   refine (Any.strconv_Itoa L n h0 h1 w (tab_is W hn hg (by rw [Lib.pow10Tab_length]; omega))).mono ?_
   rintro en w' ⟨rfl, k, os, rfl⟩
   refine still_sound W hwo hwt ?_ (.a (.cell (.p .str))) ⟨rfl, rfl⟩
   refine ⟨fun b x hb => ?_, ?_, rfl, ⟨rfl, ?_⟩, rfl⟩
   ·simp only [Sort.grow, World.drewN]
    rw [Array.getElem?_append_left (get_lt hb)]
    exact hb
   ·simp [Sort.grow, World.drewN]
   ·simp [Sort.grow, World.drewN]
end Go.Vm
namespace Go.Proofs
open Go.Shelf
def Tryz.itoa_ren : Go.Shelf.Ren := ⟨fun | 171 => 70 | 243 => 101 | 246 => 129 | 283 => 152 | 284 => 153 | 285 => 154 | 286 => 155 | 129 => 95 | 317 => 181 | 318 => 182 | 319 => 183 | 320 => 184 | 337 => 203 | 338 => 204 | n => n, fun | 3 => 3 | 9 => 9 | 2 => 2 | 4 => 4 | 171 => 211 | 0 => 0 | 53 => 147 | 37 => 207 | 5 => 5 | 173 => 213 | 212 => 236 | 51 => 145 | 20 => 20 | 213 => 237 | 46 => 111 | 232 => 261 | 233 => 262 | n => n, fun | 17 => 0 | 18 => 2 | 19 => 3 | n => n⟩
theorem Tryz.itoa : Go.Proofs.LaysM.n171 Tryz.prog Tryz.itoa_ren := {
 mixed := by kernel_rfl
 f129 := Tryz.func95.trans (congrArg some (by kernel_rfl))
 f171 := Tryz.func70.trans (congrArg some (by kernel_rfl))
 f243 := Tryz.func101.trans (congrArg some (by kernel_rfl))
 f246 := Tryz.func129.trans (congrArg some (by kernel_rfl))
 f283 := Tryz.func152.trans (congrArg some (by kernel_rfl))
 f284 := Tryz.func153.trans (congrArg some (by kernel_rfl))
 f285 := Tryz.func154.trans (congrArg some (by kernel_rfl))
 f286 := Tryz.func155.trans (congrArg some (by kernel_rfl))
 f317 := Tryz.func181.trans (congrArg some (by kernel_rfl))
 f318 := Tryz.func182.trans (congrArg some (by kernel_rfl))
 f319 := Tryz.func183.trans (congrArg some (by kernel_rfl))
 f320 := Tryz.func184.trans (congrArg some (by kernel_rfl))
 f337 := Tryz.func203.trans (congrArg some (by kernel_rfl))
 f338 := Tryz.func204.trans (congrArg some (by kernel_rfl))
 t0 := Tryz.underlying0
 a0 := Tryz.isAgg0
 z0 := Tryz.sizeOf0
 v0 := Tryz.zeroValue0
 t2 := Tryz.underlying2
 a2 := Tryz.isAgg2
 z2 := Tryz.sizeOf2
 v2 := Tryz.zeroValue2
 t3 := Tryz.underlying3
 a3 := Tryz.isAgg3
 z3 := Tryz.sizeOf3
 v3 := Tryz.zeroValue3
 t4 := Tryz.underlying4
 a4 := Tryz.isAgg4
 z4 := Tryz.sizeOf4
 v4 := Tryz.zeroValue4
 t5 := Tryz.underlying5
 a5 := Tryz.isAgg5
 z5 := Tryz.sizeOf5
 v5 := Tryz.zeroValue5
 t9 := Tryz.underlying9
 a9 := Tryz.isAgg9
 z9 := Tryz.sizeOf9
 v9 := Tryz.zeroValue9
 t20 := Tryz.underlying20
 a20 := Tryz.isAgg20
 z20 := Tryz.sizeOf20
 v20 := Tryz.zeroValue20
 t37 := Tryz.underlying207
 a37 := Tryz.isAgg207
 z37 := Tryz.sizeOf207
 v37 := Tryz.zeroValue207
 t46 := Tryz.underlying111
 a46 := Tryz.isAgg111
 z46 := Tryz.sizeOf111
 v46 := Tryz.zeroValue111
 t51 := Tryz.underlying145
 a51 := Tryz.isAgg145
 z51 := Tryz.sizeOf145
 v51 := Tryz.zeroValue145
 t53 := Tryz.underlying147
 a53 := Tryz.isAgg147
 z53 := Tryz.sizeOf147
 v53 := Tryz.zeroValue147
 t171 := Tryz.underlying211
 a171 := Tryz.isAgg211
 z171 := Tryz.sizeOf211
 v171 := Tryz.zeroValue211
 t173 := Tryz.underlying213
 a173 := Tryz.isAgg213
 z173 := Tryz.sizeOf213
 v173 := Tryz.zeroValue213
 t212 := Tryz.underlying236
 a212 := Tryz.isAgg236
 z212 := Tryz.sizeOf236
 v212 := Tryz.zeroValue236
 t213 := Tryz.underlying237
 a213 := Tryz.isAgg237
 z213 := Tryz.sizeOf237
 t232 := Tryz.underlying261
 a232 := Tryz.isAgg261
 z232 := Tryz.sizeOf261
 v232 := Tryz.zeroValue261
 t233 := Tryz.underlying262
 a233 := Tryz.isAgg262
 z233 := Tryz.sizeOf262
 v233 := Tryz.zeroValue262
 g17 := by kernel_rfl
 g18 := by kernel_rfl
 g19 := by kernel_rfl
 i0 := by kernel_rfl
 i2 := by kernel_rfl
 i3 := by kernel_rfl
 i4 := by kernel_rfl
 i5 := by kernel_rfl
 i9 := by kernel_rfl
 i20 := by kernel_rfl
 i37 := by kernel_rfl
 i46 := by kernel_rfl
 i51 := by kernel_rfl
 i53 := by kernel_rfl
 i171 := by kernel_rfl
 i173 := by kernel_rfl
 i212 := by kernel_rfl
 i232 := by kernel_rfl
 i233 := by kernel_rfl
 m17 := by kernel_rfl
 m18 := by kernel_rfl
 m19 := by kernel_rfl
}
end Go.Proofs
namespace Go.Vm
open Go Go.Proofs
def itoaB (n : Int) : ByteArray := ⟨(Lib.itoa n).toArray⟩
theorem itoa_at {g : G} {n : Int} (h0 : -9223372036854775808 ≤ n) (h1 : n ≤ 9223372036854775807) : CallsAt En g 70 [.p (.int .i64 n)] (.p (.str (itoaB n))) g := by
 refine .prim ?_
 exact ⟨_, fzA_refl _, itoa_sound (E := En0) (ρ := Tryz.itoa_ren) Tryz.itoa (gid := 0) (by kernel_rfl) (by kernel_rfl) h0 h1⟩
theorem itoa_pure {n : Int} (h0 : -9223372036854775808 ≤ n) (h1 : n ≤ 9223372036854775807) : Pure En 70 [.p (.int .i64 n)] (.p (.str (itoaB n))) := fun g => itoa_at h0 h1
end Go.Vm
set_option linter.unusedVariables false
namespace Go.Vm
open Go
def Vw.all (w : World) : Vw := { sg := fun b => match w.heap[b]? with | some (.cells C _ _) => some C | _ => none, rho := fun _ => 0, kap := fun _ => 0, kn := fun _ => 0, osz := fun _ => 0, toks := [], nobj := 0 }
def G.none : G := ⟨[], [], 0, 0⟩
theorem Vw.all_sg {w : World} {b : Nat} {C : Array Value} {e : TypeId} {fr : Nat × Nat} (h : w.heap[b]? = some (.cells C e fr)) : (Vw.all w).sg b = some C := by simp [Vw.all, h]
theorem Vw.all_cells {w : World} {b : Nat} {C : Array Value} (h : (Vw.all w).sg b = some C) : ∃ e fr, w.heap[b]? = some (.cells C e fr) := by
 simp only [Vw.all] at h
 split at h
 ·rename_i C' e fr hh; cases h; exact ⟨e, fr, hh⟩
 ·cases h
theorem WR.all {E : Env} {w : World} (hg : ∀ gid row, E.glob gid = some row → GlobR (Vw.all w) gid row w) : WR E (Vw.all w) G.none w where
 sg b cs h := by
  obtain ⟨e, fr, hh⟩ := Vw.all_cells h
  exact ⟨cs, e, fr, hh, fun _ _ h => h⟩
 nobj := rfl
 toks := rfl
 obj id o h := by simp [G.none] at h
 inj i j oi oj h := by simp [G.none] at h
 osz i h := by exact absurd h (Nat.not_lt_zero _)
 osg i h := by exact absurd h (Nat.not_lt_zero _)
 tk k h := by exact absurd h (Nat.not_lt_zero _)
 tinj i j h := by exact absurd h (Nat.not_lt_zero _)
 glob := hg
structure Kept (w w' : World) : Prop where
 os : w'.os = w.os
 out : w'.output = w.output
 size : w.heap.size ≤ w'.heap.size
 heap : ∀ b, b < w.heap.size → w'.heap[b]? = w.heap[b]?
theorem Kept.but {w w' : World} (h : Kept w w') (may : MemPlace → Prop) : w.keptBut w' may := by
 refine ⟨h.os, h.out, fun i hi => ?_⟩
 rw [h.heap i hi]
 exact (World.keptBut_refl w may).2.2 i hi
theorem enter_kept {E : Env} {f : FuncId} {args : List V} {ys : Array Value} {w : World} {Q : V → G → Prop} (hp : PrimOk E) (W : WR E (Vw.all w) G.none w) (ha : RepArgs (Vw.all w) args ys) (h : Ev E (.call f args G.none Q)) :
  Calls E.P f ys w fun e w' => ∃ r y v' g', e = .returned y ∧ Q r g' ∧ RepV v' noLc r y ∧ Kept w w' := by
 refine (sound hp h (Vw.all w) w ys W (Nat.le_refl _) (Nat.le_refl _) ha).mono ?_
 rintro e w' ⟨r, y, v', g', rfl, hq, W', hr, hx, hP⟩
 obtain ⟨gl, S, _⟩ := hP.ex
 refine ⟨r, y, v', g', rfl, hq, hr, S.os, S.out, S.size, fun b hb => S.other b hb (fun i hi => absurd hi (Nat.not_lt_zero _)) (fun k hk => absurd hk (Nat.not_lt_zero _))⟩
section
variable {H : Type} {enc : TypeId × Value → H} {P : Program} {w w' : World} {base : Nat} {held : Bool}
theorem Kept.sameAt (h : Kept w w') {p : MemPlace} (hp : p.block < w.heap.size) : w.sameAt w' p := by
 cases p with
 | cell b off => simp only [World.sameAt, World.cell?]; rw [h.heap b hp]
 | map b => exact h.heap b hp
def kidsT (P : Program) (T : Nat → Bool) (t : TypeId) : Bool := match P.underlying t with
 | some (.pointer e) | some (.array _ e) | some (.map _ e) => T e
 | some (.slice e) => T e && !(Nat.beq (P.cellsOf e) 0)
 | some (.struct fs) => fs.toList.all fun f => T f.type
 | _ => true
theorem trodStep_spare {T : Nat → Bool} {sp : Nat → Bool} {r r' : TypeId → List Value → Option (DataW H × List MemPlace)}
  (hr : ∀ t cs x, T t = true → r t cs = some x → (∀ p ∈ x.2, sp p.block = true) → r' t cs = some x) {t : TypeId} {cs : List Value} {x : DataW H × List MemPlace} (hT : kidsT P T t = true)
  (h : DataW.trodStep enc P w base (fun _ => true) true r t cs = some x) (hs : ∀ p ∈ x.2, sp p.block = true) : DataW.trodStep enc P w base sp true r' t cs = some x := by
 unfold kidsT at hT
 unfold DataW.trodStep at h ⊢
 split at h
 case h_1 => exact h
 case h_2 => exact h
 case h_3 => exact h
 case h_4 => exact h
 case h_5 => exact h
 case h_6 e a hu =>
  rw [hu] at hT
  simp only [Option.map_eq_some_iff, Option.bind_eq_some_iff] at h ⊢
  obtain ⟨y, ⟨cs', hc, hy⟩, rfl⟩ := h
  exact ⟨y, ⟨cs', hc, hr _ _ _ hT hy (fun p hp => hs p (by simp [hp]))⟩, rfl⟩
 case h_7 => exact h
 case h_8 e a len cap hu =>
  rw [hu] at hT
  simp only [Bool.and_eq_true, Bool.not_eq_true'] at hT
  obtain ⟨hT, hTz⟩ := hT
  have hne : P.cellsOf e ≠ 0 := fun e0 => by rw [e0] at hTz; cases hTz
  simp only at h ⊢
  split at h
  ·rename_i hc
   rw [if_pos hc]
   simp only [Option.map_eq_some_iff, Option.bind_eq_some_iff] at h ⊢
   obtain ⟨elems, he, rest, hrest, rfl⟩ := h
   have hlen : elems.length = len := by simpa using mapM_some_length he
   have one : ∀ (i : Nat) (y : DataW H × List MemPlace), y ∈ elems ++ rest →
     (w.cells? base (a.add (i * P.cellsOf e)) (P.cellsOf e)).bind (r e) = some y → (w.cells? base (a.add (i * P.cellsOf e)) (P.cellsOf e)).bind (r' e) = some y := by
    intro i y hy hv
    simp only [Option.bind_eq_some_iff] at hv ⊢
    obtain ⟨cs', hc', hy'⟩ := hv
    refine ⟨cs', hc', hr _ _ _ hT hy' (fun p hp => hs p ?_)⟩
    simp only [List.mem_append, List.mem_flatMap]
    right
    exact ⟨y, by simpa using hy, hp⟩
   refine ⟨elems, mapM_carry he (fun i y hi hy => one i y (by simp [hy])), rest, ?_, rfl⟩
   rw [if_pos trivial] at hrest
   have hrl : rest.length = cap - len := by simpa using mapM_some_length hrest
   by_cases hsp : sp a.block = true
   ·rw [if_pos hsp]
    exact mapM_carry hrest (fun j y hj hy => one (len + j) y (by simp [hy]))
   ·rw [if_neg hsp]
    have h0 : ¬ 0 < (elems.length + rest.length) * P.cellsOf e := by
     intro hpos
     apply hsp
     have := hs (.cell a.block (a.off + 0)) (by simp only [List.mem_append]; left; exact MemPlace.mem_row.2 ⟨0, hpos, rfl⟩)
     exact this
    have h1 : rest.length = 0 := by
     rcases Nat.eq_zero_or_pos (elems.length + rest.length) with h2 | h2
     ·omega
     ·exact absurd (Nat.mul_pos h2 (Nat.pos_of_ne_zero hne)) h0
    rw [List.length_eq_zero_iff.1 h1]
  ·cases h
 case h_9 hu =>
  rw [hu] at hT
  split at h
  ·rename_i hc
   rw [if_pos hc]
   simp only [Option.map_eq_some_iff] at h ⊢
   obtain ⟨xs, hx, rfl⟩ := h
   exact ⟨xs, mapM_carry hx (fun f y hf hy hv => hr _ _ _ (List.all_eq_true.1 hT f hf) hv (fun p hp => hs p (List.mem_flatMap.2 ⟨y, hy, hp⟩))), rfl⟩
  ·cases h
 case h_10 hu =>
  rw [hu] at hT
  split at h
  ·rename_i hc
   rw [if_pos hc]
   simp only [Option.map_eq_some_iff] at h ⊢
   obtain ⟨xs, hx, rfl⟩ := h
   exact ⟨xs, mapM_carry hx (fun f y _ hy hv => hr _ _ _ hT hv (fun p hp => hs p (List.mem_flatMap.2 ⟨y, hy, hp⟩))), rfl⟩
  ·cases h
 case h_11 => exact h
 case h_12 => exact h
 case h_13 => exact h
 case h_14 k e b hu =>
  rw [hu] at hT
  split at h
  ·rename_i es clock hb
   split at h
   ·rename_i hc
    simp only [Option.bind_eq_some_iff] at h
    obtain ⟨entries, he, hd⟩ := h
    split at hd
    ·rename_i hris
     have hx := Option.some.inj hd
     subst hx
     simp only [if_pos hc, Option.bind_eq_some_iff]
     refine ⟨entries, mapM_carry he (fun x y _ hy hv => ?_), by simp [hris]⟩
     simp only [Option.bind_eq_some_iff] at hv ⊢
     obtain ⟨key, hk, hz⟩ := hv
     refine ⟨key, hk, ?_⟩
     split at hz
     ·rename_i hf
      rw [if_pos hf]
      simp only [Option.map_eq_some_iff] at hz ⊢
      obtain ⟨q, hq, rfl⟩ := hz
      exact ⟨q, hr _ _ _ hT hq (fun p hp => hs p (by simp only [List.mem_cons, List.mem_flatMap]; right; exact ⟨_, hy, hp⟩)), rfl⟩
     ·cases hz
    ·cases hd
   ·cases h
  ·cases h
 case h_15 => exact h
 case h_16 => exact h
 case h_17 => exact h
 case h_18 => exact h
 case h_19 => exact h
 case h_20 => exact h
 case h_21 => cases h
theorem trod_spare {T : Nat → Bool} {sp : Nat → Bool} (hT : ∀ t, T t = true → kidsT P T t = true) : ∀ (n : Nat) (t : TypeId) (cs : List Value) (x : DataW H × List MemPlace), T t = true →
  DataW.trod enc P w base (fun _ => true) true n t cs = some x → (∀ p ∈ x.2, sp p.block = true) → DataW.trod enc P w base sp true n t cs = some x := by
 intro n
 induction n with
 | zero => intro t cs x _ h; simp [DataW.trod] at h
 | succ n ih =>
  intro t cs x ht h hs
  rw [DataW.trod_step] at h ⊢
  exact trodStep_spare ih (hT t ht) h hs
theorem trodAll_kept {T : Nat → Bool} {sp : Nat → Bool} (hT : ∀ t, T t = true → kidsT P T t = true) (k : Kept w w') (hsp : ∀ b, b < w.heap.size → sp b = true) : ∀ {ts : List TypeId} {vs : List Value} {ds : List (DataW H)} {ps : List MemPlace}, ts.all T = true →
  DataW.TrodAll enc P w base (fun _ => true) true ts vs ds ps → DataW.TrodAll enc P w' base sp true ts vs ds ps
 | [], [], [], _, _, h => h
 | _ :: _, _ :: _, _ :: _, _, ht, ⟨p, q, ⟨n, h⟩, hs, e⟩ => by
  simp only [List.all_cons, Bool.and_eq_true] at ht
  refine ⟨p, q, ⟨n, ?_⟩, trodAll_kept hT k hsp ht.2 hs, e⟩
  have hlt := DataW.trod_lt n _ _ _ h
  exact trod_spare hT n _ _ _ ht.1 (DataW.trod_carry n _ _ _ h (fun p hp => k.sameAt (hlt p hp))) (fun p hp => hsp _ (hlt p hp))
end
theorem post_kept {H : Type} {enc : TypeId × Value → H} {P : Program} {T : Nat → Bool} (hT : ∀ t, T t = true → kidsT P T t = true) {f : Func} (hf : f.params.toList.all T = true) {s : ChangeSpec} {apart fresh handsOn : Bool} {W W' : World} {args : Array Value} {v : Value} {ds gs : List (DataW H)} {before : List MemPlace}
  (hW : DataW.Whole enc P f.params.toList s.vars apart W args.toList ds gs before) (hv : s.vars = [])
  (hres : ∀ (b : Nat) (sp : Nat → Bool) (hd : Bool), DataW.TrodAll enc P W' b sp hd f.resultTypes.toList (v.resultList f.resultTypes.size) (s.fn H (ds ++ gs)).results [])
  (hargs : (s.fn H (ds ++ gs)).args = ds) (hvars : (s.fn H (ds ++ gs)).vars = []) (k : Kept W W') : s.post enc P f apart fresh handsOn false W args v W' := by
 have hW' := hW
 obtain ⟨p, q, hA, hV, e, _⟩ := hW'
 refine ⟨ds, gs, before, [], p, [], hW, hres _ _ _, ?_, ?_, k.but _, fun h => by cases h⟩
 ·rw [hargs]
  exact trodAll_kept hT k (fun b hb => by simpa using hb) hf hA
 ·rw [hvars, hv]; exact rfl
end Go.Vm
set_option linter.unusedVariables false
namespace Go.Vm
open Go Go.Proofs Go.Sort
def cmpL : List Int → List Int → Int
 | [], [] => 0
 | [], _ :: _ => -1
 | _ :: _, [] => 1
 | a :: l, b :: m => if a < b then -1 else if b < a then 1 else cmpL l m
theorem cmpL_self : ∀ l : List Int, cmpL l l = 0
 | [] => rfl
 | a :: l => by simp [cmpL, cmpL_self l]
theorem cmpL_neg : ∀ l m : List Int, cmpL m l = - cmpL l m
 | [], [] => rfl
 | [], _ :: _ => rfl
 | _ :: _, [] => rfl
 | a :: l, b :: m => by
  unfold cmpL
  by_cases h : a < b
  ·rw [if_pos h, if_neg (by omega), if_pos h]; rfl
  ·by_cases h2 : b < a
   ·rw [if_pos h2, if_neg h, if_pos h2]
   ·rw [if_neg h, if_neg h2, if_neg h2, if_neg h]; exact cmpL_neg l m
theorem cmpL_eq : ∀ l m : List Int, cmpL l m = 0 → l = m
 | [], [], _ => rfl
 | [], _ :: _, h => by simp [cmpL] at h
 | _ :: _, [], h => by simp [cmpL] at h
 | a :: l, b :: m, h => by
  unfold cmpL at h
  split at h
  ·simp at h
  ·split at h
   ·simp at h
   ·rw [cmpL_eq l m h, show a = b by omega]
theorem cmpL_trans : ∀ l m n : List Int, cmpL l m ≤ 0 → cmpL m n ≤ 0 → cmpL l n ≤ 0 ∧ (cmpL l m < 0 ∨ cmpL m n < 0 → cmpL l n < 0)
 | [], m, [], h1, h2 => by
  refine ⟨by simp [cmpL], fun h => ?_⟩
  cases m with
  | nil => simp [cmpL] at h
  | cons b m => simp [cmpL] at h2
 | [], m, c :: n, h1, h2 => by simp [cmpL]
 | a :: l, [], n, h1, h2 => by simp [cmpL] at h1
 | a :: l, b :: m, [], h1, h2 => by simp [cmpL] at h2
 | a :: l, b :: m, c :: n, h1, h2 => by
  have ih := cmpL_trans l m n
  unfold cmpL at h1 h2 ⊢
  by_cases p1 : a < b
  ·by_cases p2 : b < c
   ·simp [show a < c by omega]
   ·by_cases p3 : c < b
    ·rw [if_neg p2, if_pos p3] at h2; omega
    ·simp [show a < c by omega]
  ·by_cases p3 : b < a
   ·rw [if_neg p1, if_pos p3] at h1; omega
   ·by_cases p2 : b < c
    ·simp [show a < c by omega]
    ·by_cases p4 : c < b
     ·rw [if_neg p2, if_pos p4] at h2; omega
     ·rw [if_neg p1, if_neg p3] at h1 ⊢
      rw [if_neg p2, if_neg p4] at h2 ⊢
      rw [if_neg (show ¬ a < c by omega), if_neg (show ¬ c < a by omega)]
      exact ih h1 h2
theorem cmpL_swo {α : Type} (f : α → List Int) : SWO (ltOf fun x y : α => cmpL (f x) (f y)) where
 irrefl x := by simp [ltOf, cmpL_self]
 trans x y z h1 h2 := by
  simp only [ltOf, decide_eq_true_eq] at h1 h2 ⊢
  exact (cmpL_trans _ _ _ (by omega) (by omega)).2 (Or.inl h1)
 ntrans x y z h1 h2 := by
  simp only [ltOf, decide_eq_false_iff_not] at h1 h2 ⊢
  have e1 := cmpL_neg (f x) (f y)
  have e2 := cmpL_neg (f y) (f z)
  have e3 := cmpL_neg (f x) (f z)
  have := (cmpL_trans (f z) (f y) (f x) (by omega) (by omega)).1
  omega
def srtL (us : List (List Int)) : List (List Int) := us.mergeSort fun x y => decide (cmpL x y ≤ 0)
theorem srtL_perm (us : List (List Int)) : (srtL us).Perm us := List.mergeSort_perm us _
theorem srtL_len (us : List (List Int)) : (srtL us).length = us.length := List.length_mergeSort us
theorem srtL_le (us : List (List Int)) : (srtL us).Pairwise fun x y => cmpL x y ≤ 0 := by
 have := List.pairwise_mergeSort (le := fun x y : List Int => decide (cmpL x y ≤ 0)) (fun a b c h1 h2 => by
  simp only [decide_eq_true_eq] at *; exact (cmpL_trans a b c h1 h2).1) (fun a b => by simp only [Bool.or_eq_true, decide_eq_true_eq]; have := cmpL_neg a b; omega) us
 exact this.imp fun h => by simpa using h
theorem srtL_uniq {us vs : List (List Int)} (hp : vs.Perm us) (hs : vs.Pairwise fun x y => cmpL x y ≤ 0) : vs = srtL us :=
 (hp.trans (srtL_perm us).symm).eq_of_pairwise (le := fun x y => cmpL x y ≤ 0) (fun a b _ _ h1 h2 => cmpL_eq a b (by have := cmpL_neg a b; omega)) hs (srtL_le us)
def RowsOf (cs : List V) (us : List (List Int)) : Prop := cs.length = us.length ∧ ∀ (i : Nat) (c : V) (u : List Int), cs[i]? = some c → us[i]? = some u → ∃ k, c = .sl (u.map fun a => [V.p (.int .i64 a)]) k
theorem RowsOf.nil : RowsOf [] [] := ⟨rfl, fun i c u h => by simp at h⟩
theorem RowsOf.snoc {cs : List V} {us : List (List Int)} (h : RowsOf cs us) (u : List Int) (k : SK) : RowsOf (cs ++ [.sl (u.map fun a => [V.p (.int .i64 a)]) k]) (us ++ [u]) := by
 refine ⟨by simp [h.1], fun i c u' hc hu => ?_⟩
 by_cases hi : i < cs.length
 ·rw [List.getElem?_append_left hi] at hc
  rw [List.getElem?_append_left (by rw [← h.1]; exact hi)] at hu
  exact h.2 i c u' hc hu
 ·have := h.1
  rw [List.getElem?_append_right (by omega)] at hc hu
  rw [h.1] at hc
  obtain ⟨n, hn⟩ : ∃ n, i - us.length = n := ⟨_, rfl⟩
  rw [hn] at hc hu
  cases n with
  | zero => simp at hc hu; subst hc hu; exact ⟨k, rfl⟩
  | succ n => simp at hc
theorem put_wroteF {α : Type} [Inhabited α] {enc : α → Value} {w : World} {blk off n : Nat} {d : Array α} {C : Array Value} {e : TypeId} {fr : Nat × Nat} (h : w.heap[blk]? = some (.cells C e fr)) :
  Wrote w (putRow enc (Sort.ahead w n) blk off d) blk (.cells (putCells enc off d C) e fr) := by
 refine ⟨?_, fun c hc => ?_, ?_, rfl, ⟨rfl, Nat.le_add_right _ _⟩, rfl⟩
 ·simp only [putRow, mapBlock, Sort.ahead, Array.getElem?_modify, if_true, h, Option.map_some, onCells]
 ·simp only [putRow, mapBlock, Sort.ahead, Array.getElem?_modify]
  rw [if_neg (fun e => hc e.symm)]
 ·simp [putRow, mapBlock, Sort.ahead]
def CmpOk (E : Env) (gC : FuncId) : Prop := ∀ (W2 : World) (a b : List Int) (ya yb : Value), (∀ gid row, E.glob gid = some row → GlobR (Vw.all W2) gid row W2) → RepP (Vw.all W2).sg (.sl (a.map eInt)) ya → RepP (Vw.all W2).sg (.sl (b.map eInt)) yb →
 a.length < 2 ^ 60 → b.length < 2 ^ 60 → Calls E.P gC #[ya, yb] W2 fun e w' => e = .returned (.int .i64 (cmpL a b)) ∧ ∃ q os', w' = Sort.grow (W2.drewN q) os'
theorem sortF_sound {E : Env} {ρ : Go.Shelf.Ren} (Ly : SlLaysF.n6 E.P ρ) {gC : FuncId} (eg : ∀ args w, (callFunc gC args).run E.P w = .ok (.enter gC args) w) (hcmp : CmpOk E gC) (hpl : ∀ gid row, E.glob gid = some row → ∀ x, x ∈ row → ∃ p, x = .p p)
  {g : G} {id cap : Nat} {cs : List V} {us : List (List Int)} (ho : g.objs[id]? = some (.cells cs)) (hcu : RowsOf cs us) (hul : ∀ u, u ∈ us → u.length < 2 ^ 60) (hu : us.length < 2 ^ 60) (hpos : 0 < us.length) :
  Sound E (.call (ρ.f 6) [.arr id 0 us.length cap 1, .fn (.func gC) []] g fun r g' => r = .tup [] ∧ ∃ cs', RowsOf cs' (srtL us) ∧ g' = g.setObj id (.cells cs')) := by
 intro v w ys W hwo hwt ha
 have hsz : ys.size = 2 := ha.1.symm
 obtain ⟨y, z, rfl⟩ : ∃ y z, ys = #[y, z] := by
  refine ⟨ys[0], ys[1], ?_⟩
  apply Array.ext (by simp [hsz])
  intro i h1 h2
  have : i = 0 ∨ i = 1 := by simp at h2; omega
  rcases this with rfl | rfl <;> simp
 have hy : RepA v (.arr id 0 us.length cap 1) y := ha.2 0 _ _ rfl rfl
 have hz : RepA v (.fn (.func gC) []) z := ha.2 1 _ _ rfl rfl
 have hz' : z = .func (.func gC) #[] #[] := by
  cases hz with
  | cell hz => cases hz with
   | @fn _ _ zs h1 h2 =>
    have : zs = #[] := by apply Array.eq_empty_of_size_eq_zero; simpa using h1.symm
    rw [this]
 subst hz'
 cases hy with
 | cell hy =>
  cases hy with
  | @arr _ _ _ _ _ c a h1 h2 h3 h4 h5 h6 =>
   obtain ⟨b, off, sp⟩ := a
   simp only at h1 h3 h4
   subst h1 h3
   obtain ⟨rfl, _⟩ := h4 (by omega)
   have hO := W.obj id _ ho
   generalize hx : w.heap[v.rho id]? = X at hO
   cases hO with
   | @cells _ ds C e fr hfr hR =>
    have hlt := get_lt hx
    have hCl : C.toList.length = us.length + ds.length := by rw [← hR.1, List.length_append, hcu.1]
    rw [Array.length_toList] at hCl
    obtain ⟨m, hm⟩ : ∃ m, us.length = m + 1 := ⟨us.length - 1, by omega⟩
    have csl : cs.length = m + 1 := by rw [hcu.1, hm]
    let α := Fin (m + 1)
    let enc : α → Value := fun i => C[i.1]'(by omega)
    let uf : α → List Int := fun i => us[i.1]'(by omega)
    let cf : α → α → Int := fun x y => cmpL (uf x) (uf y)
    let d : Array α := Array.ofFn (fun i : Fin (m + 1) => i)
    have hds : d.size = us.length := by simp [d, hm]
    have dget : ∀ j (hj : j < m + 1), d[j]! = (⟨j, hj⟩ : α) := by
     intro j hj
     rw [getElem!_pos d j (by simp [d]; omega)]
     simp [d]
    have crep : ∀ i : α, ∃ k, RepC v (.sl ((uf i).map fun a => [V.p (.int .i64 a)]) k) (enc i) := by
     intro i
     have hi : i.1 < cs.length := by rw [csl]; exact i.2
     have e1 : cs[i.1]? = some cs[i.1] := List.getElem?_eq_getElem hi
     obtain ⟨k, hk⟩ := hcu.2 i.1 _ (uf i) e1 (List.getElem?_eq_getElem (by omega))
     refine ⟨k, ?_⟩
     rw [← hk]
     refine hR.2 i.1 _ _ (by rw [List.getElem?_append_left hi]; exact e1) ?_
     rw [Array.getElem?_toList, Array.getElem?_eq_getElem (by omega)]
    have prep : ∀ i : α, RepP v.sg (.sl ((uf i).map eInt)) (enc i) := by
     intro i
     obtain ⟨k, hk⟩ := crep i
     exact hk.sealed (pvRows_map (f := eInt) (uf i))
    have h1c : OneCell enc := fun i => by obtain ⟨k, hk⟩ := crep i; exact hk.oneCell
    have hH : Holds enc w (v.rho id) 0 d := by
     intro j hj
     rw [cell_of hx]
     have hj' : j < m + 1 := by omega
     refine ⟨?_, ?_⟩
     ·rw [Nat.zero_add, dget j hj', Array.getElem?_eq_getElem (by omega)]
     ·simp only [World.frozen?, hx]
      have := hfr (0 + j) (by omega)
      simpa using this
    have hsgb : v.sg (v.rho id) = none := W.osg id (by rw [W.nobj]; exact (List.getElem?_eq_some_iff.1 ho).1)
    have hC : CmpLays1 E.P gC #[] enc cf (v.rho id) 0 d.size w := by
     intro n os dk hdk x y
     have hheap : ∀ b, b < w.heap.size → b ≠ v.rho id → (sortWorld enc w (v.rho id) 0 n dk os).heap[b]? = w.heap[b]? := by
      intro b hb hne
      simp only [sortWorld, Sort.grow]
      rw [Array.getElem?_append_left (by simpa [putRow, mapBlock, Sort.ahead] using hb)]
      exact (put_wroteF (enc := enc) (off := 0) (n := n) (d := dk) hx).other b hne
     have hsg : ∀ b cs, v.sg b = some cs → ∃ ds, (Vw.all (sortWorld enc w (v.rho id) 0 n dk os)).sg b = some (cs ++ ds) := by
      intro b cs hb
      obtain ⟨C', e', fr', q1, q2⟩ := W.sg b cs hb
      have hne : b ≠ v.rho id := by rintro rfl; rw [hsgb] at hb; cases hb
      have := (hheap b (get_lt q1) hne).trans q1
      refine ⟨C'.extract cs.size C'.size, ?_⟩
      rw [Vw.all_sg this]
      congr 1
      have hle : cs.size ≤ C'.size := by
       rcases Nat.lt_or_ge C'.size cs.size with h | h
       ·have q := q2 C'.size cs[C'.size] (Array.getElem?_eq_getElem h)
        rw [Array.getElem?_eq_none (Nat.le_refl _)] at q
        cases q
       ·exact h
      apply Array.ext
      ·simp; omega
      ·intro i i1 i2
       by_cases hi : i < cs.size
       ·rw [Array.getElem_append_left hi]
        have q := q2 i cs[i] (Array.getElem?_eq_getElem hi)
        rw [Array.getElem?_eq_getElem i1] at q
        simpa using q
       ·rw [Array.getElem_append_right (by omega)]
        simp only [Array.getElem_extract]
        congr 1; omega
     have hb : ∀ i : α, (uf i).length < 2 ^ 60 := fun i => hul _ (List.getElem_mem _)
     refine hcmp (sortWorld enc w (v.rho id) 0 n dk os) (uf x) (uf y) (enc x) (enc y) ?_ ((prep x).ext hsg) ((prep y).ext hsg) (hb x) (hb y)
     intro gid row hrow
     have R := W.glob gid row hrow
     obtain ⟨cs1, hcs1⟩ := R.sg
     obtain ⟨C1, e1, fr1, q1, q2⟩ := R.size
     have hne : gid ≠ v.rho id := by rintro rfl; rw [hsgb] at hcs1; cases hcs1
     have q3 := (hheap gid (get_lt q1) hne).trans q1
     refine ⟨?_, ⟨C1, e1, fr1, q3, q2⟩, _, Vw.all_sg q3⟩
     have hpl' := hpl gid row hrow
     have hrep := R.rep
     cases hrep with
     | a hrep => cases hrep with | cell hrep => cases hrep
     | ref zs cz p1 p2 p3 p4 =>
      by_cases hrn : row = []
      ·subst hrn
       exact .ref zs cz p1 (fun h => absurd rfl h) ⟨p3.1, fun i x y h => by simp at h⟩ p4
      ·obtain ⟨dz, hdz⟩ := hsg _ _ (p2 hrn)
       refine .ref zs _ p1 (fun _ => hdz) ⟨p3.1, fun i x y hxx hyy => ?_⟩ (fun j y hj => ?_)
       ·obtain ⟨p, rfl⟩ := hpl' x (List.mem_of_getElem? hxx)
        have := p3.2 i _ y hxx hyy
        cases this with
        | p this => exact .p (this.ext hsg)
       ·have := p4 j y hj
        rw [Array.getElem?_append_left (Array.getElem?_eq_some_iff.1 this).1]
        exact this
    have hret := Any.slices_SortFunc Ly enc h1c cf (cmpL_swo uf) gC #[] (v.rho id) 0 c d w eg hC hH hlt (by omega)
    rw [hds] at hret
    refine hret.mono ?_
    rintro en w' ⟨rfl, d', n, os, hperm, hsorted, rfl⟩
    have hd's : d'.size = m + 1 := by rw [hperm.1, hds, hm]
    have hidl := (List.getElem?_eq_some_iff.1 ho).1
    have hpl : d'.toList.Perm d.toList := by
     have := hperm.2.2
     rw [hm] at this
     have e1 : d'.extract 0 (m + 1) = d' := by rw [← hd's]; simp
     have e2 : d.extract 0 (m + 1) = d := by rw [show m + 1 = d.size by omega]; simp
     rwa [e1, e2] at this
    let cs' : List V := d'.toList.map fun i => cs[i.1]'(by rw [csl]; exact i.2)
    have cs'l : cs'.length = m + 1 := by simp [cs', hd's]
    have hus : d'.toList.map uf = srtL us := by
     refine srtL_uniq ?_ ?_
     ·have e1 : d.toList.map uf = us := by
       apply List.ext_getElem
       ·simp [d, hm]
       ·intro i i1 i2; simp only [d, uf, Array.toList_ofFn, List.getElem_map, List.getElem_ofFn]
      rw [← e1]
      exact hpl.map _
     ·rw [List.pairwise_map, List.pairwise_iff_getElem]
      intro i j hi hj hij
      simp only [Array.length_toList] at hi hj
      have := hsorted i j (Nat.zero_le _) hij (by omega)
      rw [getElem!_pos d' i hi, getElem!_pos d' j hj] at this
      simp only [ltOf, decide_eq_false_iff_not] at this
      have e0 : ¬ (cmpL (uf d'[j]) (uf d'[i]) < 0) := this
      have e := cmpL_neg (uf d'[i]) (uf d'[j])
      simp only [Array.getElem_toList]
      omega
    have hrows : RowsOf cs' (srtL us) := by
     rw [← hus]
     refine ⟨by simp [cs'], fun i c u hc hu => ?_⟩
     simp only [cs', List.getElem?_map, Option.map_eq_some_iff] at hc hu
     obtain ⟨x, hx1, rfl⟩ := hc
     obtain ⟨x', hx2, rfl⟩ := hu
     rw [hx1] at hx2; cases hx2
     exact hcu.2 x.1 _ _ (List.getElem?_eq_getElem (by rw [csl]; exact x.2)) (List.getElem?_eq_getElem (by omega))
    refine arr_sound W hwo hwt ho rfl (put_wroteF (enc := enc) (off := 0) (n := n) (d := d') hx) (fun C' e' fr' h => ?_) (.cells (ds := ds) ?_ ?_) ?_ (r := .tup []) (.tup rfl fun i x y h => by simp at h) ⟨rfl, cs', hrows, rfl⟩
    ·cases h; exact ⟨C, e, fr, hx, by simp [putCells]⟩
    ·intro i hi; exact hfr i (by simpa [putCells] using hi)
    ·refine ⟨by simp [putCells, cs'l, hCl, hm], fun i x z hx' hz => ?_⟩
     have hz : (putCells enc 0 d' C)[i]? = some z := by simpa using hz
     simp only [putCells, Array.getElem?_mapIdx, Option.map_eq_some_iff] at hz
     obtain ⟨z0, hz0, rfl⟩ := hz
     by_cases hi : i < m + 1
     ·rw [if_pos ⟨Nat.zero_le _, by omega⟩]
      rw [List.getElem?_append_left (by omega)] at hx'
      simp only [cs', List.getElem?_map, Option.map_eq_some_iff] at hx'
      obtain ⟨q, hq1, rfl⟩ := hx'
      have hq2 : d'[i]! = q := by
       rw [getElem!_pos d' i (by omega)]
       have := (List.getElem?_eq_some_iff.1 hq1).2
       simpa using this
      rw [Nat.sub_zero, hq2]
      have hql : q.1 < cs.length := by rw [csl]; exact q.2
      refine hR.2 q.1 _ _ (by rw [List.getElem?_append_left hql]; exact List.getElem?_eq_getElem hql) ?_
      rw [Array.getElem?_toList, Array.getElem?_eq_getElem (by omega)]
     ·rw [if_neg (by omega)]
      refine hR.2 i x z0 ?_ (by simpa using hz0)
      rw [List.getElem?_append_right (by omega)] at hx'
      rw [List.getElem?_append_right (by omega)]
      rw [csl, ← cs'l]; exact hx'
    ·refine ⟨fun b x hb => ?_, ?_, rfl, ⟨rfl, Nat.le_refl _⟩, rfl⟩
     ·simp only [sortWorld, Sort.grow]
      rw [Array.getElem?_append_left (get_lt hb)]
      exact hb
     ·simp [sortWorld, Sort.grow]
end Go.Vm
set_option maxRecDepth 100000
namespace Go.Vm
open Go Go.Proofs
theorem mixed : En.P.follows .mixedOrders = true := by kernel_rfl
theorem und3 : En.P.underlying 3 = some (.int .i64) := Tryz.underlying3
theorem isag3 : isag En 3 = some false := by kernel_rfl
theorem sz3 : sz En 3 = some 1 := by kernel_rfl
theorem zero3 : zeroOf En 3 = some [.p (.int .i64 0)] := by kernel_rfl
theorem zv3 : zeroV En 3 = some (.p (.int .i64 0)) := by kernel_rfl
theorem inf3 : (En.P.info? 3).map (fun i => (i.size, i.bytes)) = some (1, 8) := by kernel_rfl
theorem isag4 : isag En 4 = some false := by kernel_rfl
theorem sz4 : sz En 4 = some 1 := by kernel_rfl
theorem zv4 : zeroV En 4 = some (.p (.bool false)) := by kernel_rfl
theorem und9 : En.P.underlying 9 = some .string := Tryz.underlying9
theorem isag9 : isag En 9 = some false := by kernel_rfl
theorem sz9 : sz En 9 = some 1 := by kernel_rfl
theorem zero9 : zeroOf En 9 = some [.p (.str ⟨#[]⟩)] := by kernel_rfl
theorem inf9 : (En.P.info? 9).map (fun i => (i.size, i.bytes)) = some (1, 16) := by kernel_rfl
theorem und22 : En.P.underlying 22 = some (.slice 34) := Tryz.underlying22
theorem el22 : elemOf En 22 = some 34 := by kernel_rfl
theorem isag22 : isag En 22 = some false := by kernel_rfl
theorem sz22 : sz En 22 = some 1 := by kernel_rfl
theorem isag24 : isag En 24 = some true := by kernel_rfl
theorem sz24 : sz En 24 = some 2 := by kernel_rfl
theorem zero24 : zeroOf En 24 = some [.p .nilsl, .p (.int .i64 0)] := by kernel_rfl
theorem fld24_0 : fieldOf En 24 0 = some (0, 1, false) := by kernel_rfl
theorem fld24_1 : fieldOf En 24 1 = some (1, 1, false) := by kernel_rfl
theorem und27 : En.P.underlying 27 = some (.slice 3) := Tryz.underlying27
theorem el27 : elemOf En 27 = some 3 := by kernel_rfl
theorem isag27 : isag En 27 = some false := by kernel_rfl
theorem sz27 : sz En 27 = some 1 := by kernel_rfl
theorem zero27 : zeroOf En 27 = some [.p .nilsl] := by kernel_rfl
theorem zv27 : zeroV En 27 = some (.p .nilsl) := by kernel_rfl
theorem inf27 : (En.P.info? 27).map (fun i => (i.size, i.bytes)) = some (1, 24) := by kernel_rfl
theorem und32 : En.P.underlying 32 = some (.slice 37) := Tryz.underlying32
theorem el32 : elemOf En 32 = some 37 := by kernel_rfl
theorem isag32 : isag En 32 = some false := by kernel_rfl
theorem sz32 : sz En 32 = some 1 := by kernel_rfl
theorem isag34 : isag En 34 = some true := by kernel_rfl
theorem sz34 : sz En 34 = some 3 := by kernel_rfl
theorem zero34 : zeroOf En 34 = some [.p (.bool false), .p .nilsl, .p .nilsl] := by kernel_rfl
theorem inf34 : (En.P.info? 34).map (fun i => (i.size, i.bytes)) = some (3, 56) := by kernel_rfl
theorem fld34_0 : fieldOf En 34 0 = some (0, 1, false) := by kernel_rfl
theorem fld34_1 : fieldOf En 34 1 = some (1, 1, false) := by kernel_rfl
theorem fld34_2 : fieldOf En 34 2 = some (2, 1, false) := by kernel_rfl
theorem und35 : En.P.underlying 35 = some (.slice 9) := Tryz.underlying35
theorem el35 : elemOf En 35 = some 9 := by kernel_rfl
theorem isag35 : isag En 35 = some false := by kernel_rfl
theorem isag37 : isag En 37 = some true := by kernel_rfl
theorem sz37 : sz En 37 = some 4 := by kernel_rfl
theorem zero37 : zeroOf En 37 = some [.p (.int .i64 0), .p .nilsl, .p .nilsl, .p (.bool false)] := by kernel_rfl
theorem inf37 : (En.P.info? 37).map (fun i => (i.size, i.bytes)) = some (4, 64) := by kernel_rfl
theorem fld37_0 : fieldOf En 37 0 = some (0, 1, false) := by kernel_rfl
theorem fld37_1 : fieldOf En 37 1 = some (1, 1, false) := by kernel_rfl
theorem fld37_2 : fieldOf En 37 2 = some (2, 1, false) := by kernel_rfl
theorem fld37_3 : fieldOf En 37 3 = some (3, 1, false) := by kernel_rfl
theorem isag40 : isag En 40 = some true := by kernel_rfl
theorem sz40 : sz En 40 = some 2 := by kernel_rfl
theorem zero40 : zeroOf En 40 = some [.p .nilsl, .p (.int .i64 0)] := by kernel_rfl
theorem fld40_0 : fieldOf En 40 0 = some (0, 1, false) := by kernel_rfl
theorem fld40_1 : fieldOf En 40 1 = some (1, 1, false) := by kernel_rfl
theorem und71 : En.P.underlying 71 = some (.map 3 4) := Tryz.underlying71
theorem isag75 : isag En 75 = some false := by kernel_rfl
theorem und79 : En.P.underlying 79 = some (.map 3 3) := Tryz.underlying79
theorem und80 : En.P.underlying 80 = some (.map 3 27) := Tryz.underlying80
theorem und83 : En.P.underlying 83 = some (.slice 27) := Tryz.underlying83
theorem el83 : elemOf En 83 = some 27 := by kernel_rfl
theorem und101 : En.P.underlying 101 = some (.map 9 3) := Tryz.underlying101
theorem und116 : En.P.underlying 116 = some (.map 3 118) := Tryz.underlying116
theorem isag118 : isag En 118 = some true := by kernel_rfl
theorem sz118 : sz En 118 = some 2 := by kernel_rfl
theorem zero118 : zeroOf En 118 = some [.p (.bool false), .p (.bool false)] := by kernel_rfl
theorem fld118_0 : fieldOf En 118 0 = some (0, 1, false) := by kernel_rfl
theorem fld118_1 : fieldOf En 118 1 = some (1, 1, false) := by kernel_rfl
theorem isag150 : isag En 150 = some true := by kernel_rfl
theorem sz150 : sz En 150 = some 6 := by kernel_rfl
theorem zero150 : zeroOf En 150 = some [.p (.int .i64 0), .p (.int .i64 0), .p (.str ⟨#[]⟩), .p .nilsl, .p .nilsl, .p (.bool false)] := by kernel_rfl
theorem inf150 : (En.P.info? 150).map (fun i => (i.size, i.bytes)) = some (6, 88) := by kernel_rfl
theorem fld150_0 : fieldOf En 150 0 = some (0, 1, false) := by kernel_rfl
theorem fld150_2 : fieldOf En 150 2 = some (2, 1, false) := by kernel_rfl
theorem fld150_3 : fieldOf En 150 3 = some (3, 1, false) := by kernel_rfl
theorem fld150_4 : fieldOf En 150 4 = some (4, 1, false) := by kernel_rfl
theorem fld150_5 : fieldOf En 150 5 = some (5, 1, false) := by kernel_rfl
theorem isag153 : isag En 153 = some true := by kernel_rfl
theorem sz153 : sz En 153 = some 8 := by kernel_rfl
theorem zero153 : zeroOf En 153 = some [.p (.int .i64 0), .p (.int .i64 0), .p (.str ⟨#[]⟩), .p (.int .i64 0), .p (.int .u64 0), .p .nilsl, .p .nilsl, .p .nilsl] := by kernel_rfl
theorem fld153_6 : fieldOf En 153 6 = some (6, 1, false) := by kernel_rfl
theorem fld153_7 : fieldOf En 153 7 = some (7, 1, false) := by kernel_rfl
theorem und154 : En.P.underlying 154 = some (.slice 153) := Tryz.underlying154
theorem el154 : elemOf En 154 = some 153 := by kernel_rfl
theorem isag154 : isag En 154 = some false := by kernel_rfl
theorem und155 : En.P.underlying 155 = some (.slice 150) := Tryz.underlying155
theorem el155 : elemOf En 155 = some 150 := by kernel_rfl
theorem isag155 : isag En 155 = some false := by kernel_rfl
theorem sz155 : sz En 155 = some 1 := by kernel_rfl
theorem und156 : En.P.underlying 156 = some (.slice 183) := Tryz.underlying156
theorem isag156 : isag En 156 = some false := by kernel_rfl
theorem isag158 : isag En 158 = some true := by kernel_rfl
theorem sz158 : sz En 158 = some 3 := by kernel_rfl
theorem zero158 : zeroOf En 158 = some [.p .nilsl, .p .nilsl, .p .nilsl] := by kernel_rfl
theorem fld158_0 : fieldOf En 158 0 = some (0, 1, false) := by kernel_rfl
theorem fld158_1 : fieldOf En 158 1 = some (1, 1, false) := by kernel_rfl
theorem fld158_2 : fieldOf En 158 2 = some (2, 1, false) := by kernel_rfl
theorem und178 : En.P.underlying 178 = some (.slice 3) := Tryz.underlying178
theorem el178 : elemOf En 178 = some 3 := by kernel_rfl
theorem isag183 : isag En 183 = some true := by kernel_rfl
theorem sz183 : sz En 183 = some 3 := by kernel_rfl
theorem zero183 : zeroOf En 183 = some [.p (.str ⟨#[]⟩), .p (.int .i64 0), .p (.int .i64 0)] := by kernel_rfl
theorem fld183_0 : fieldOf En 183 0 = some (0, 1, false) := by kernel_rfl
theorem fld183_1 : fieldOf En 183 1 = some (1, 1, false) := by kernel_rfl
theorem und231 : En.P.underlying 231 = some (.map 9 4) := Tryz.underlying231
theorem okf10 : okFn En 10 = true := by kernel_rfl
theorem okf11 : okFn En 11 = true := by kernel_rfl
theorem okf12 : okFn En 12 = true := by kernel_rfl
theorem okf13 : okFn En 13 = true := by kernel_rfl
theorem okf15 : okFn En 15 = true := by kernel_rfl
theorem okf17 : okFn En 17 = true := by kernel_rfl
theorem okf19 : okFn En 19 = true := by kernel_rfl
theorem okf20 : okFn En 20 = true := by kernel_rfl
theorem okf30 : okFn En 30 = true := by kernel_rfl
theorem okf36 : okFn En 36 = true := by kernel_rfl
theorem okf37 : okFn En 37 = true := by kernel_rfl
theorem okf39 : okFn En 39 = true := by kernel_rfl
theorem okf40 : okFn En 40 = true := by kernel_rfl
theorem okf41 : okFn En 41 = true := by kernel_rfl
theorem okf43 : okFn En 43 = true := by kernel_rfl
theorem okf44 : okFn En 44 = true := by kernel_rfl
theorem okf45 : okFn En 45 = true := by kernel_rfl
theorem okf46 : okFn En 46 = true := by kernel_rfl
theorem okf48 : okFn En 48 = true := by kernel_rfl
theorem okf49 : okFn En 49 = true := by kernel_rfl
theorem okf55 : okFn En 55 = true := by kernel_rfl
theorem okf64 : okFn En 64 = true := by kernel_rfl
theorem okf65 : okFn En 65 = true := by kernel_rfl
theorem okf66 : okFn En 66 = true := by kernel_rfl
theorem okf67 : okFn En 67 = true := by kernel_rfl
theorem okf69 : okFn En 69 = true := by kernel_rfl
theorem okf70 : okFn En 70 = true := by kernel_rfl
theorem okf72 : okFn En 72 = true := by kernel_rfl
theorem okf74 : okFn En 74 = true := by kernel_rfl
theorem okf75 : okFn En 75 = true := by kernel_rfl
theorem okf76 : okFn En 76 = true := by kernel_rfl
theorem okf77 : okFn En 77 = true := by kernel_rfl
theorem okf78 : okFn En 78 = true := by kernel_rfl
theorem okf96 : okFn En 96 = true := by kernel_rfl
theorem okf97 : okFn En 97 = true := by kernel_rfl
theorem okf98 : okFn En 98 = true := by kernel_rfl
theorem okf100 : okFn En 100 = true := by kernel_rfl
theorem okf110 : okFn En 110 = true := by kernel_rfl
theorem okf122 : okFn En 122 = true := by kernel_rfl
theorem okf123 : okFn En 123 = true := by kernel_rfl
theorem okf124 : okFn En 124 = true := by kernel_rfl
theorem okf125 : okFn En 125 = true := by kernel_rfl
theorem okf126 : okFn En 126 = true := by kernel_rfl
theorem okf127 : okFn En 127 = true := by kernel_rfl
theorem okf145 : okFn En 145 = true := by kernel_rfl
theorem okf147 : okFn En 147 = true := by kernel_rfl
theorem okf148 : okFn En 148 = true := by kernel_rfl
theorem okf149 : okFn En 149 = true := by kernel_rfl
theorem okf151 : okFn En 151 = true := by kernel_rfl
theorem okf167 : okFn En 167 = true := by kernel_rfl
theorem okf172 : okFn En 172 = true := by kernel_rfl
theorem okf173 : okFn En 173 = true := by kernel_rfl
theorem okf174 : okFn En 174 = true := by kernel_rfl
theorem okf175 : okFn En 175 = true := by kernel_rfl
theorem okf177 : okFn En 177 = true := by kernel_rfl
theorem okf178 : okFn En 178 = true := by kernel_rfl
theorem okf185 : okFn En 185 = true := by kernel_rfl
theorem okf188 : okFn En 188 = true := by kernel_rfl
theorem okf192 : okFn En 192 = true := by kernel_rfl
theorem okf193 : okFn En 193 = true := by kernel_rfl
end Go.Vm
set_option linter.unusedVariables false
namespace Go.Vm
open Go Go.Proofs
attribute [local irreducible] wpL
set_option maxRecDepth 20000 in
theorem low_ok (c : UInt8) : Pure En 172 [.p (.int .u8 c.toNat)] (.p (.bool (lowB c))) := by
 refine pure_walk [(0, .p (.int .u8 c.toNat))] Tryz.func172 rfl rfl rfl fun g hwo hwt => ?_
 show Wc En _ (Tryz.f172.body.getD .skip) [] (Sx 13 _ _ _ _ _ _)
 unfold Tryz.f172
 simp only [Option.getD_some]
 refine wc_seq (wc_reg fun K hK => ?_)
 refine x_assign rfl rfl rfl ?_
 refine x_nil (hK _ ?_); clear hK K
 refine go_seq (wc_seq (wc_reg fun K hK => ?_))
 refine x_move rfl rfl rfl ?_
 refine x_bin rfl rfl rfl rfl rfl ?_
 refine x_moveS rfl rfl rfl (fun hg5 => ?_) (fun hg5 => ?_)
 ·refine x_move rfl rfl rfl ?_
  refine x_bin rfl rfl rfl rfl rfl ?_
  refine x_pickT rfl rfl rfl rfl ?_
  refine x_moveS rfl rfl rfl (fun hg9 => ?_) (fun hg9 => ?_)
  ·refine x_skip rfl rfl ?_
   refine x_skip rfl rfl ?_
   refine x_pickT rfl rfl rfl rfl ?_
   refine x_assign rfl rfl rfl ?_
   refine x_nil (hK _ ?_); clear hK K
   refine go_seq (wc_ret ?_)
   exact x_end1 (Or.inr rfl) rfl rfl rfl rfl rfl rfl (veq (by (try simp [lowB] at *); omega))
  ·refine x_move rfl rfl rfl ?_
   refine x_bin rfl rfl rfl rfl rfl ?_
   refine x_pickF rfl rfl rfl rfl ?_
   refine x_assign rfl rfl rfl ?_
   refine x_nil (hK _ ?_); clear hK K
   refine go_seq (wc_ret ?_)
   exact x_end1 (Or.inr rfl) rfl rfl rfl rfl rfl rfl (veq (by (try simp [lowB] at *); omega))
 ·refine x_skip rfl rfl ?_
  refine x_skip rfl rfl ?_
  refine x_pickF rfl rfl rfl rfl ?_
  refine x_move rfl rfl rfl ?_
  refine x_move rfl rfl rfl ?_
  refine x_bin rfl rfl rfl rfl rfl ?_
  refine x_pickF rfl rfl rfl rfl ?_
  refine x_assign rfl rfl rfl ?_
  refine x_nil (hK _ ?_); clear hK K
  refine go_seq (wc_ret ?_)
  exact x_end1 (Or.inr rfl) rfl rfl rfl rfl rfl rfl (veq (by (try simp [lowB] at *); omega))
set_option maxRecDepth 20000 in
theorem digit_ok (c : UInt8) : Pure En 192 [.p (.int .u8 c.toNat)] (.p (.bool (digB c))) := by
 refine pure_walk [(0, .p (.int .u8 c.toNat))] Tryz.func192 rfl rfl rfl fun g hwo hwt => ?_
 show Wc En _ (Tryz.f192.body.getD .skip) [] (Sx 9 _ _ _ _ _ _)
 unfold Tryz.f192
 simp only [Option.getD_some]
 refine wc_seq (wc_reg fun K hK => ?_)
 refine x_assign rfl rfl rfl ?_
 refine x_nil (hK _ ?_); clear hK K
 refine go_seq (wc_seq (wc_reg fun K hK => ?_))
 refine x_move rfl rfl rfl ?_
 refine x_bin rfl rfl rfl rfl rfl ?_
 refine x_moveS rfl rfl rfl (fun hg5 => ?_) (fun hg5 => ?_)
 ·refine x_move rfl rfl rfl ?_
  refine x_bin rfl rfl rfl rfl rfl ?_
  refine x_pickT rfl rfl rfl rfl ?_
  refine x_assign rfl rfl rfl ?_
  refine x_nil (hK _ ?_); clear hK K
  refine go_seq (wc_ret ?_)
  exact x_end1 (Or.inr rfl) rfl rfl rfl rfl rfl rfl (veq (by (try simp [digB] at *); omega))
 ·refine x_skip rfl rfl ?_
  refine x_skip rfl rfl ?_
  refine x_pickF rfl rfl rfl rfl ?_
  refine x_assign rfl rfl rfl ?_
  refine x_nil (hK _ ?_); clear hK K
  refine go_seq (wc_ret ?_)
  exact x_end1 (Or.inr rfl) rfl rfl rfl rfl rfl rfl (veq (by (try simp [digB] at *); omega))
set_option maxRecDepth 20000 in
theorem inName_ok (c : UInt8) : Pure En 174 [.p (.int .u8 c.toNat)] (.p (.bool (inNameB c))) := by
 refine pure_walk [(0, .p (.int .u8 c.toNat))] Tryz.func174 rfl rfl rfl fun g hwo hwt => ?_
 show Wc En _ (Tryz.f174.body.getD .skip) [] (Sx 9 _ _ _ _ _ _)
 unfold Tryz.f174
 simp only [Option.getD_some]
 refine wc_seq (wc_reg fun K hK => ?_)
 refine x_assign rfl rfl rfl ?_
 refine x_nil (hK _ ?_); clear hK K
 refine go_seq (wc_seq (wc_reg fun K hK => ?_))
 refine x_move rfl rfl rfl ?_
 refine x_call rfl rfl rfl (by repeat (first | exact ho_nil | refine ho_cons (by first | rfl | exact rd_ho (by assumption)) ?_)) okf172 (low_ok c _) ?_
 refine x_moveS rfl rfl rfl (fun hg5 => ?_) (fun hg5 => ?_)
 ·refine x_skip rfl rfl ?_
  refine x_skip rfl rfl ?_
  refine x_pickT rfl rfl rfl rfl ?_
  refine x_assign rfl rfl rfl ?_
  refine x_nil (hK _ ?_); clear hK K
  refine go_seq (wc_ret ?_)
  exact x_end1 (Or.inr rfl) rfl rfl rfl rfl rfl rfl (by simp_all [inNameB])
 ·refine x_move rfl rfl rfl ?_
  refine x_call rfl rfl rfl (by repeat (first | exact ho_nil | refine ho_cons (by first | rfl | exact rd_ho (by assumption)) ?_)) okf192 (digit_ok c _) ?_
  refine x_pickF rfl rfl rfl rfl ?_
  refine x_assign rfl rfl rfl ?_
  refine x_nil (hK _ ?_); clear hK K
  refine go_seq (wc_ret ?_)
  exact x_end1 (Or.inr rfl) rfl rfl rfl rfl rfl rfl (by simp_all [inNameB])
set_option maxRecDepth 20000 in
theorem risingI_ok {v : V} {a : List Int} (hv : Rd eInt v a) (ha : a.length < 2 ^ 60) : Pure En 65 [v] (.p (.bool (risI a))) := by
 refine pure_walk [(0, v)] Tryz.func65 rfl rfl rfl fun g hwo hwt => ?_
 show Wc En _ (Tryz.f65.body.getD .skip) [] (Sx 20 _ _ _ _ _ _)
 unfold Tryz.f65
 simp only [Option.getD_some]
 refine wc_seq (wc_reg fun K hK => ?_)
 refine x_assign rfl rfl rfl ?_
 refine x_nil (hK _ ?_); clear hK K
 refine go_seq (wc_seq (wc_seq (wc_reg fun K hK => ?_)))
 refine x_assign rfl rfl rfl ?_
 refine x_nil (hK _ ?_); clear hK K
 refine go_seq (wc_block ?_)
 refine xc_loop [(0, _)] [] (fun j : Nat => [(3, .p (.int .i64 ((j + 1 : Nat) : Int)))]) (fun j : Nat => (j = 0 ∨ j < a.length) ∧ ∀ i, i < j → a.getD i 0 < a.getD (i + 1) 0) (fun j : Nat => a.length - j) 0 (by repeat first | exact trivial | refine .intro rfl ?_) (by repeat first | exact trivial | refine .intro rfl ?_) ⟨Or.inl rfl, fun i hi => by omega⟩ ?_
 rintro j R hR1 hR2 ⟨hj, hr⟩ b rb
 refine wc_seq (wc_seq (wc_reg fun K hK => ?_))
 refine x_move rfl rfl rfl ?_
 refine x_move rfl rfl rfl ?_
 refine x_len rfl rfl rfl (by first | assumption | exact Rd.enc) und27 ?_
 refine x_bin rfl rfl rfl rfl rfl ?_
 refine x_nil (hK _ ?_); clear hK K
 refine go_seq ?_
 refine xc_cond _ rfl (fun hc0 => ?_) (fun hc0 => ?_)
 ·have hlt : j + 1 < a.length := by simp at hc0; omega
  have e1 : a[((j + 1 : Nat) - (1 : Int)).toNat]? = some a[j] := by rw [show ((j + 1 : Nat) - (1 : Int)).toNat = j by omega]; simp
  have e2 : a[j + 1]? = some (a[j + 1]'hlt) := by simp
  refine wc_skip (go_seq (wc_seq (wc_block (wc_seq ?_))))
  refine xc_drw [0, 1, 2, 3, 4, 5, 6, 7, 8, 9] mixed (by kernel_rfl) fun K hK => ?_
  refine x_move rfl rfl rfl ?_
  refine x_move rfl rfl rfl ?_
  refine x_sub rfl rfl rfl rfl (by omega) (by omega) ?_
  refine x_iaI rfl rfl rfl (by first | assumption | exact Rd.enc) rfl und27 sz3 rfl (by omega) e1 rfl ?_
  refine x_ldR rfl rfl rfl isag3 rfl ?_
  refine x_move rfl rfl rfl ?_
  refine x_move rfl rfl rfl ?_
  refine x_ia rfl rfl rfl (by first | assumption | exact Rd.enc) rfl und27 sz3 rfl (by assumption) rfl ?_
  refine x_ldR rfl rfl rfl isag3 rfl ?_
  refine x_bin rfl rfl rfl rfl rfl ?_
  refine x_nil (hK _ ?_); clear hK K
  refine go_seq ?_
  refine xc_cond _ rfl (fun hc1 => ?_) (fun hc1 => ?_)
  ·refine wc_seq (wc_reg fun K hK => ?_)
   refine x_assign rfl rfl rfl ?_
   refine x_nil (hK _ ?_); clear hK K
   refine go_seq (wc_ret (go_blk_ret (go_seq_ret ?_)))
   refine hR2 _ _ (by simp) ?_
   refine go_blk_ret (go_seq_ret ?_)
   exact x_end1 (Or.inr rfl) rfl rfl rfl rfl rfl rfl (by rw [risI_no hlt (by simpa using hc1)])
  ·refine wc_skip (go_blk (go_seq (wc_reg fun K hK => ?_)))
   refine x_move rfl rfl rfl ?_
   refine x_inc rfl rfl rfl rfl (by omega) ?_
   refine x_assign rfl rfl rfl ?_
   refine x_nil (hK _ ?_); clear hK K
   exact hR1 (j + 1) _ _ _ _ ⟨Or.inr hlt, risI_up hr hlt (by simpa using hc1)⟩ (by omega) (by repeat first | exact trivial | refine .intro rfl ?_) (by repeat first | exact trivial | refine .intro rfl ?_)
 ·refine wc_exit ?_
  refine go_seq_exit ?_
  refine hR2 _ _ (by simp) ?_
  refine go_blk_exit (go_seq (wc_seq (wc_reg fun K hK => ?_)))
  refine x_assign rfl rfl rfl ?_
  refine x_nil (hK _ ?_); clear hK K
  refine go_seq (wc_ret ?_)
  exact x_end1 (Or.inr rfl) rfl rfl rfl rfl rfl rfl (by rw [(risI_iff a).2 fun i hi => hr i (by simp at hc0; omega)])
set_option maxRecDepth 20000 in
theorem risingS_ok {v : V} {a : List ByteArray} (hv : Rd eStr v a) (ha : a.length < 2 ^ 60) : Pure En 96 [v] (.p (.bool (risS a))) := by
 refine pure_walk [(0, v)] Tryz.func96 rfl rfl rfl fun g hwo hwt => ?_
 show Wc En _ (Tryz.f96.body.getD .skip) [] (Sx 20 _ _ _ _ _ _)
 unfold Tryz.f96
 simp only [Option.getD_some]
 refine wc_seq (wc_reg fun K hK => ?_)
 refine x_assign rfl rfl rfl ?_
 refine x_nil (hK _ ?_); clear hK K
 refine go_seq (wc_seq (wc_seq (wc_reg fun K hK => ?_)))
 refine x_assign rfl rfl rfl ?_
 refine x_nil (hK _ ?_); clear hK K
 refine go_seq (wc_block ?_)
 refine xc_loop [(0, _)] [] (fun j : Nat => [(3, .p (.int .i64 ((j + 1 : Nat) : Int)))]) (fun j : Nat => (j = 0 ∨ j < a.length) ∧ ∀ i, i < j → strLt (a.getD i default) (a.getD (i + 1) default) = true) (fun j : Nat => a.length - j) 0 (by repeat first | exact trivial | refine .intro rfl ?_) (by repeat first | exact trivial | refine .intro rfl ?_) ⟨Or.inl rfl, fun i hi => by omega⟩ ?_
 rintro j R hR1 hR2 ⟨hj, hr⟩ b rb
 refine wc_seq (wc_seq (wc_reg fun K hK => ?_))
 refine x_move rfl rfl rfl ?_
 refine x_move rfl rfl rfl ?_
 refine x_len rfl rfl rfl (by first | assumption | exact Rd.enc) und35 ?_
 refine x_bin rfl rfl rfl rfl rfl ?_
 refine x_nil (hK _ ?_); clear hK K
 refine go_seq ?_
 refine xc_cond _ rfl (fun hc0 => ?_) (fun hc0 => ?_)
 ·have hlt : j + 1 < a.length := by simp at hc0; omega
  have e1 : a[((j + 1 : Nat) - (1 : Int)).toNat]? = some a[j] := by rw [show ((j + 1 : Nat) - (1 : Int)).toNat = j by omega]; simp
  have e2 : a[j + 1]? = some (a[j + 1]'hlt) := by simp
  refine wc_skip (go_seq (wc_seq (wc_block (wc_seq ?_))))
  refine xc_drw [0, 1, 2, 3, 4, 5, 6, 7, 8, 9] mixed (by kernel_rfl) fun K hK => ?_
  refine x_move rfl rfl rfl ?_
  refine x_move rfl rfl rfl ?_
  refine x_sub rfl rfl rfl rfl (by omega) (by omega) ?_
  refine x_iaI rfl rfl rfl (by first | assumption | exact Rd.enc) rfl und35 sz9 rfl (by omega) e1 rfl ?_
  refine x_ldR rfl rfl rfl isag9 rfl ?_
  refine x_move rfl rfl rfl ?_
  refine x_move rfl rfl rfl ?_
  refine x_ia rfl rfl rfl (by first | assumption | exact Rd.enc) rfl und35 sz9 rfl (by assumption) rfl ?_
  refine x_ldR rfl rfl rfl isag9 rfl ?_
  refine x_bin rfl rfl rfl rfl rfl ?_
  refine x_nil (hK _ ?_); clear hK K
  refine go_seq ?_
  refine xc_cond _ rfl (fun hc1 => ?_) (fun hc1 => ?_)
  ·refine wc_seq (wc_reg fun K hK => ?_)
   refine x_assign rfl rfl rfl ?_
   refine x_nil (hK _ ?_); clear hK K
   refine go_seq (wc_ret (go_blk_ret (go_seq_ret ?_)))
   refine hR2 _ _ (by simp) ?_
   refine go_blk_ret (go_seq_ret ?_)
   exact x_end1 (Or.inr rfl) rfl rfl rfl rfl rfl rfl (by rw [risS_no hlt (by simpa [strLt] using hc1)])
  ·refine wc_skip (go_blk (go_seq (wc_reg fun K hK => ?_)))
   refine x_move rfl rfl rfl ?_
   refine x_inc rfl rfl rfl rfl (by omega) ?_
   refine x_assign rfl rfl rfl ?_
   refine x_nil (hK _ ?_); clear hK K
   exact hR1 (j + 1) _ _ _ _ ⟨Or.inr hlt, risS_up hr hlt (by simpa [strLt] using hc1)⟩ (by omega) (by repeat first | exact trivial | refine .intro rfl ?_) (by repeat first | exact trivial | refine .intro rfl ?_)
 ·refine wc_exit ?_
  refine go_seq_exit ?_
  refine hR2 _ _ (by simp) ?_
  refine go_blk_exit (go_seq (wc_seq (wc_reg fun K hK => ?_)))
  refine x_assign rfl rfl rfl ?_
  refine x_nil (hK _ ?_); clear hK K
  refine go_seq (wc_ret ?_)
  exact x_end1 (Or.inr rfl) rfl rfl rfl rfl rfl rfl (by rw [(risS_iff a).2 fun i hi => hr i (by simp at hc0; omega)])
set_option maxRecDepth 20000 in
theorem run_ok (s : ByteArray) (hs : s.size < 2 ^ 60) : Pure En 173 [.p (.str s), .fn (.func 174) []] (.p (.int .i64 (runN inNameB s.data.toList))) := by
 refine pure_walk [(0, .p (.str s)), (1, .fn (.func 174) [])] Tryz.func173 rfl rfl rfl fun g hwo hwt => ?_
 show Wc En _ (Tryz.f173.body.getD .skip) [] (Sx 20 _ _ _ _ _ _)
 unfold Tryz.f173
 simp only [Option.getD_some]
 refine wc_seq (wc_reg fun K hK => ?_)
 refine x_assign rfl rfl rfl ?_
 refine x_nil (hK _ ?_); clear hK K
 refine go_seq (wc_seq (wc_reg fun K hK => ?_))
 refine x_assign rfl rfl rfl ?_
 refine x_nil (hK _ ?_); clear hK K
 refine go_seq (wc_seq (wc_block ?_))
 refine xc_loop [(0, _), (1, _)] [] (fun j : Nat => [(5, .p (.int .i64 j))]) (fun j : Nat => j ≤ s.size ∧ ∀ i, i < j → ∃ c, s.data.toList[i]? = some c ∧ inNameB c = true) (fun j : Nat => s.size - j) 0 (by repeat first | exact trivial | refine .intro rfl ?_) (by repeat first | exact trivial | refine .intro rfl ?_) ⟨Nat.zero_le _, fun i hi => by omega⟩ ?_
 rintro j R hR1 hR2 ⟨hj, hr⟩ b rb
 refine wc_seq (wc_seq (wc_reg fun K hK => ?_))
 refine x_move rfl rfl rfl ?_
 refine x_move rfl rfl rfl ?_
 refine x_lenStr rfl rfl rfl und9 ?_
 refine x_bin rfl rfl rfl rfl rfl ?_
 refine x_moveS rfl rfl rfl (fun hg10 => ?_) (fun hg10 => ?_)
 ·have hlt : j < s.size := by simp at hg10; omega
  obtain ⟨e0, e1⟩ := str_at hlt
  refine x_move rfl rfl rfl ?_
  refine x_move rfl rfl rfl ?_
  refine x_move rfl rfl rfl ?_
  refine x_index rfl rfl rfl rfl und9 (by omega) (by assumption) ?_
  refine x_callD rfl rfl rfl rfl rfl okf174 (inName_ok _ _) ?_
  refine x_pickT rfl rfl rfl rfl ?_
  refine x_nil (hK _ ?_); clear hK K
  refine go_seq ?_
  refine xc_cond _ rfl (fun hc0 => ?_) (fun hc0 => ?_)
  ·refine wc_skip (go_seq (wc_block (wc_reg fun K hK => ?_)))
   refine x_move rfl rfl rfl ?_
   refine x_inc rfl rfl rfl rfl (by omega) ?_
   refine x_assign rfl rfl rfl ?_
   refine x_nil (hK _ ?_); clear hK K
   refine go_blk ?_
   exact hR1 (j + 1) _ _ _ _ ⟨hlt, runN_up hr e1 hc0⟩ (by omega) (by repeat first | exact trivial | refine .intro rfl ?_) (by repeat first | exact trivial | refine .intro rfl ?_)
  ·refine wc_exit ?_
   refine go_seq_exit ?_
   refine hR2 _ _ (by simp) ?_
   refine go_blk_exit (go_seq (wc_seq (wc_reg fun K hK => ?_)))
   refine x_move rfl rfl rfl ?_
   refine x_assign rfl rfl rfl ?_
   refine x_nil (hK _ ?_); clear hK K
   refine go_seq (wc_ret ?_)
   exact x_end1 (Or.inr rfl) rfl rfl rfl rfl rfl rfl (ieq (by rw [runN_eq inNameB s.data.toList j hr (fun c hc => by rw [e1] at hc; cases hc; exact hc0)]))
 ·refine x_skip rfl rfl ?_
  refine x_skip rfl rfl ?_
  refine x_skip rfl rfl ?_
  refine x_skip rfl rfl ?_
  refine x_skip rfl rfl ?_
  refine x_pickF rfl rfl rfl rfl ?_
  refine x_nil (hK _ ?_); clear hK K
  refine go_seq ?_
  refine xc_cond false rfl (fun h => by cases h) (fun _ => ?_)
  refine wc_exit ?_
  refine go_seq_exit ?_
  refine hR2 _ _ (by simp) ?_
  refine go_blk_exit (go_seq (wc_seq (wc_reg fun K hK => ?_)))
  refine x_move rfl rfl rfl ?_
  refine x_assign rfl rfl rfl ?_
  refine x_nil (hK _ ?_); clear hK K
  refine go_seq (wc_ret ?_)
  exact x_end1 (Or.inr rfl) rfl rfl rfl rfl rfl rfl (ieq (by rw [runN_eq inNameB s.data.toList j hr (fun c hc => by have := (List.getElem?_eq_some_iff.1 hc).1; simp at hg10; simp at this; omega)]))
end Go.Vm
