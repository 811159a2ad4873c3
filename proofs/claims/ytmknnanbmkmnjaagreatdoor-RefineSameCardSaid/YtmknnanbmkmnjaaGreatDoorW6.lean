/- Part 6 of the texts that the claim leans on: a judgement on the program over plain values, its soundness, and contracts of functions. -/
import Derived.Test.YtmknnanbmkmnjaaGreatDoorW5
set_option linter.unusedVariables false
set_option linter.unusedSimpArgs false
set_option linter.unusedVariables false
set_option linter.unusedSimpArgs false
namespace Go.Vm
open Go
def aheadOf (tab : List Nat) (o : Oper) : Nat :=
 o.after.toList.foldl (fun s e => if Region.binds .any e then s ||| 2 ^ e.on ||| tab.getD e.on 0 else s) 0
def aheadGo (acc : List Nat) : List Oper → List Nat
 | [] => acc
 | o :: l => aheadGo (acc ++ [aheadOf acc o]) l
def aheads (ops : Array Oper) : List Nat := aheadGo [] ops.toList
def tabGo (tab : List Nat) : Nat → List Oper → Bool
 | _, [] => true
 | k, o :: l => tab.getD k 0 == aheadOf tab o && o.after.toList.all (fun e => e.on < k || !Region.binds .any e) && tabGo tab (k + 1) l
def tabOk (ops : Array Oper) (tab : List Nat) : Bool := tabGo tab 0 ops.toList
def safeB (E : Env) (cl : Nat → Bool) (ops : Array Oper) (tab : List Nat) (listed : Array Bool) (s : St) (i : Nat) : Bool :=
 (List.range ops.size).all fun k => listed.getD k true || k == i || (tab.getD k 0).testBit i ||
  match ops[i]?, ops[k]? with
  | some a, some b => pairOk E cl ops s i k a b
  | _, _ => true
section
variable {E : Env} {cl : Nat → Bool} {ops : Array Oper}
theorem foldl_bit {tab : List Nat} {i : Nat} : ∀ (l : List Edge) (s : Nat), (l.foldl (fun s e => if Region.binds .any e then s ||| 2 ^ e.on ||| tab.getD e.on 0 else s) s).testBit i = true →
  s.testBit i = true ∨ ∃ e ∈ l, Region.binds .any e = true ∧ (e.on = i ∨ (tab.getD e.on 0).testBit i = true) := by
 intro l
 induction l with
 | nil => intro s h; exact Or.inl h
 | cons e l ih =>
  intro s h
  rcases ih _ h with h | ⟨e', he, h1, h2⟩
  ·simp only [] at h
   split at h
   ·rename_i hb
    simp only [Nat.testBit_or, Nat.testBit_two_pow, Bool.or_eq_true, decide_eq_true_eq] at h
    rcases h with (h | h) | h
    ·exact Or.inl h
    ·exact Or.inr ⟨e, by simp, hb, Or.inl h⟩
    ·exact Or.inr ⟨e, by simp, hb, Or.inr h⟩
   ·exact Or.inl h
  ·exact Or.inr ⟨e', List.mem_cons_of_mem _ he, h1, h2⟩
theorem tabGo_at {tab : List Nat} : ∀ (l : List Oper) (k : Nat), tabGo tab k l = true → ∀ j o, l[j]? = some o →
  tab.getD (k + j) 0 = aheadOf tab o ∧ ∀ e ∈ o.after.toList, Region.binds .any e = true → e.on < k + j := by
 intro l
 induction l with
 | nil => intro k _ j o h; simp at h
 | cons x l ih =>
  intro k h j o hj
  simp only [tabGo, Bool.and_eq_true, beq_iff_eq] at h
  cases j with
  | zero =>
   simp at hj; subst hj
   refine ⟨h.1.1, fun e he hb => ?_⟩
   have := List.all_eq_true.1 h.1.2 e he
   simp only [hb, Bool.not_true, Bool.or_false, decide_eq_true_eq] at this
   simpa using this
  | succ j =>
   simp at hj
   have := ih (k + 1) h.2 j o hj
   rw [show k + 1 + j = k + (j + 1) by omega] at this
   exact this
theorem tab_at {tab : List Nat} (h : tabOk ops tab = true) {k : Nat} {o : Oper} (ho : ops[k]? = some o) :
  tab.getD k 0 = aheadOf tab o ∧ ∀ e ∈ o.after.toList, Region.binds .any e = true → e.on < k := by
 have := tabGo_at _ 0 h k o (by simpa using ho)
 simpa using this
def Down (ops : Array Oper) (listed : Array Bool) : Prop :=
 ∀ k o, ops[k]? = some o → listed.getD k true = true → ∀ e ∈ o.after.toList, Region.binds .any e = true → listed.getD e.on false = true
theorem ready_iff {listed : Array Bool} {i : Nat} : i ∈ Region.ready .any ops listed ↔ ∃ o, ops[i]? = some o ∧ listed.getD i true = false ∧
  ∀ e ∈ o.after.toList, Region.binds .any e = true → listed.getD e.on false = true := by
 unfold Region.ready
 rw [List.mem_filter, List.mem_range]
 constructor
 ·rintro ⟨h1, h2⟩
  obtain ⟨o, ho⟩ : ∃ o, ops[i]? = some o := ⟨ops[i], by simp [h1]⟩
  simp only [ho, Option.map_some, Option.getD_some, Bool.and_eq_true, Bool.not_eq_true'] at h2
  refine ⟨o, ho, h2.1, fun e he hb => ?_⟩
  have := h2.2
  rw [← Array.all_toList, List.all_eq_true] at this
  have := this e he
  simpa [hb] using this
 ·rintro ⟨o, ho, h1, h2⟩
  refine ⟨(Array.getElem?_eq_some_iff.1 ho).1, ?_⟩
  simp only [ho, Option.map_some, Option.getD_some, Bool.and_eq_true, Bool.not_eq_true']
  refine ⟨h1, ?_⟩
  rw [← Array.all_toList, List.all_eq_true]
  intro e he
  cases hb : Region.binds .any e
  ·simp
  ·simpa [hb] using h2 e he hb
theorem listed_bit {tab : List Nat} (h : tabOk ops tab = true) {listed : Array Bool} (hsz : listed.size = ops.size) (hd : Down ops listed) {i : Nat} : ∀ k, listed.getD k false = true → (tab.getD k 0).testBit i = true → listed.getD i false = true := by
 intro k
 induction k using Nat.strongRecOn with
 | _ k ih =>
  intro hk hb
  have hlt : k < ops.size := by
   rw [← hsz]
   by_cases hlt : k < listed.size
   ·exact hlt
   ·simp [Array.getD, hlt] at hk
  have ho : ops[k]? = some ops[k] := by simp [hlt]
  obtain ⟨t1, t2⟩ := tab_at h ho
  rw [t1] at hb
  rcases foldl_bit _ _ hb with hb | ⟨e, he, h1, h2⟩
  ·simp at hb
  ·have hk' : listed.getD k true = true := by
    rw [← hsz] at hlt
    simp [Array.getD, hlt] at hk ⊢; exact hk
   have hl := hd k _ ho hk' e he h1
   rcases h2 with h2 | h2
   ·rw [← h2]; exact hl
   ·exact ih e.on (t2 e he h1) hl h2
theorem ready_bit {tab : List Nat} (h : tabOk ops tab = true) {listed : Array Bool} (hsz : listed.size = ops.size) (hd : Down ops listed) {i k : Nat} (hk : k ∈ Region.ready .any ops listed) (hi : listed.getD i true = false) :
  (tab.getD k 0).testBit i = false := by
 cases hb : (tab.getD k 0).testBit i with
 | false => rfl
 | true =>
  exfalso
  obtain ⟨o, ho, h1, h2⟩ := ready_iff.1 hk
  obtain ⟨t1, t2⟩ := tab_at h ho
  rw [t1] at hb
  have : listed.getD i false = true := by
   rcases foldl_bit _ _ hb with hb | ⟨e, he, h3, h4⟩
   ·simp at hb
   ·rcases h4 with h4 | h4
    ·rw [← h4]; exact h2 e he h3
    ·exact listed_bit h hsz hd e.on (h2 e he h3) h4
  by_cases hlt : i < listed.size
  ·simp [Array.getD, hlt] at this hi; rw [this] at hi; cases hi
  ·simp [Array.getD, hlt] at this
theorem localOk_state {s s1 : St} {a : Oper} (hc : clOf s.esc a = .r) (ha : ∀ x ∈ a.op.operands.toList, s1.ev E x = s.ev E x) (hw : wants ops s1 a = wants ops s a)
  (hrg : ∀ t g off, ∀ x ∈ a.op.operands.toList, s.ev E x = some (.loc t g off) → s1.rg t = s.rg t) (h : localOk E ops s a = true) : localOk E ops s1 a = true := by
 unfold localOk at h ⊢
 rw [hw]
 split
 ·rename_i hq
  rw [hq] at h
  simp only at h
  obtain ⟨⟨v, sb⟩, hs⟩ := Option.isSome_iff_exists.1 h
  have hc' : clOf s.bare.esc a = .r := hc
  obtain ⟨_, hgo⟩ := stepV_r hc' hs
  have eb : ∀ (z : St) (x : Operand), z.bare.ev E x = z.ev E x := fun z x => by cases x <;> rfl
  rw [hgo s1.bare (fun {x} hh => by rw [eb, eb]; exact ha x hh) (fun id ob hh => by simp [St.bare] at hh) (fun t g off x hh e => hrg t g off x hh (by rw [← eb]; exact e))]
  rfl
 ·rfl
theorem pairOk_state {s s1 : St} {i k k' : Nat} {a b b' : Oper} (h : pairOk E cl ops s i k' a b' = true) (ha : ∀ x ∈ a.op.operands.toList, s1.ev E x = s.ev E x) (he : s1.esc = s.esc)
  (hw : wants ops s1 a = wants ops s a) (hrg : clOf s.esc a = .r → ∀ t g off, ∀ x ∈ a.op.operands.toList, s.ev E x = some (.loc t g off) → s1.rg t = s.rg t) :
  pairOk E cl ops s1 i k' a b' = true := by
 have h1 : addrOk E s1 a b' = addrOk E s a b' := by
  unfold addrOk
  rw [Bool.eq_iff_iff, List.all_eq_true, List.all_eq_true]
  exact ⟨fun hh x hx => by rw [← ha x hx]; exact hh x hx, fun hh x hx => by rw [ha x hx]; exact hh x hx⟩
 unfold pairOk at h ⊢
 rw [h1, he]
 cases hca : clOf s.esc a <;> cases hcb : clOf s.esc b' <;> first | (rw [hca, hcb] at h; exact h) | skip
 rw [hca, hcb] at h
 simp only [Bool.and_eq_true, Bool.or_eq_true] at h ⊢
 exact ⟨h.1, h.2.imp id fun h => localOk_state hca ha hw (hrg hca) h⟩
theorem pair_rg {k i : Nat} {s s1 : St} {a b : Oper} (hb : ops[k]? = some b) (h : pairOk E cl ops s i k a b = true) (hca : clOf s.esc a = .r) (hdo : Do E cl ops k s s1) :
  ∀ t g off, ∀ x ∈ a.op.operands.toList, s.ev E x = some (.loc t g off) → s1.rg t = s.rg t := by
 unfold pairOk at h
 rw [Bool.and_eq_true] at h
 intro t g off x hx e
 have quiet : (clOf s.esc b = .q ∨ clOf s.esc b = .r) → s1.rg = s.rg := by
  intro hq
  obtain ⟨v, _, hp⟩ := hdo.quiet hb (hq.imp id Or.inl)
  rcases put_tm hp with ⟨_, rfl⟩ | ⟨d, _, rfl, _⟩ <;> rfl
 have ad : addrOk E s a b = true → b.dst ≠ some t := by
  intro h
  have := List.all_eq_true.1 h x hx
  simp only [e] at this
  simpa using this
 cases hcb : clOf s.esc b with
 | q => rw [quiet (Or.inl hcb)]
 | r => rw [quiet (Or.inr hcb)]
 | c =>
  have pt : ∀ {a c : St} {v : V}, a.put b.dst v = some c → c.rg = a.rg := by
   intro a c v h
   rcases put_tm h with ⟨_, rfl⟩ | ⟨d, _, rfl, _⟩ <;> rfl
  cases hdo with
  | skip x _ c => rw [hb] at x; cases x; rw [pt c]
  | step x _ c _ => rw [hb] at x; cases x; exact absurd c (no_call_step hcb)
  | call x _ _ _ _ p => rw [hb] at x; cases x; rw [pt p]
 | l => rw [hca, hcb] at h; exact hdo.rgs hb (Or.inr (Or.inl hcb)) t (ad h.2)
 | n => rw [hca, hcb] at h; exact hdo.rgs hb (Or.inl hcb) t (ad h.2)
 | w => rw [hca, hcb] at h; cases h.2
def AnyD (E : Env) (cl : Nat → Bool) (ops : Array Oper) (Q : St → Prop) : Nat → Array Bool → St → Prop
 | 0, listed, s => Region.ready .any ops listed = [] ∧ Q s
 | n + 1, listed, s => (Region.ready .any ops listed = [] → Q s) ∧
   ∀ i ∈ Region.ready .any ops listed, ∃ s', Do E cl ops i s s' ∧ AnyD E cl ops Q n (listed.setIfInBounds i true) s'
theorem AnyD.sound {Q : St → Prop} : ∀ (n t : Nat) (listed : Array Bool) (s : St), AnyD E cl ops Q n listed s →
  Ev E (.ops ops (Region.linearise.go .any ops n t listed []) s Q) := by
 intro n
 induction n with
 | zero => intro t listed s h; exact .nil h.2
 | succ n ih =>
  intro t listed s h
  obtain ⟨h₀, h₁⟩ := h
  simp only [Region.linearise.go]
  change Ev E (.ops ops (match (Region.ready .any ops listed)[t % (Region.ready .any ops listed).length]? with
   | some i => Region.linearise.go .any ops n (t / (Region.ready .any ops listed).length) (listed.setIfInBounds i true) [i]
   | none => [].reverse) s Q)
  cases hi : (Region.ready .any ops listed)[t % (Region.ready .any ops listed).length]? with
  | none =>
   have hnil : Region.ready .any ops listed = [] := by
    cases hr : Region.ready .any ops listed with
    | nil => rfl
    | cons x xs =>
     rw [hr] at hi
     have hlt : t % (x :: xs).length < (x :: xs).length := Nat.mod_lt _ (by simp)
     simp at hi
     simp at hlt
     omega
   exact .nil (h₀ hnil)
  | some i =>
   simp only []
   rw [linearise_go_acc, List.reverse_singleton, List.singleton_append]
   obtain ⟨s', hd, hr⟩ := h₁ i (List.mem_of_getElem? hi)
   exact hd.ev (ih _ _ _ hr)
theorem getD_set {l : Array Bool} {i k : Nat} {d : Bool} (hi : i < l.size) : (l.setIfInBounds i true).getD k d = if k = i then true else l.getD k d := by
 by_cases hk : k < l.size
 ·simp [Array.getD, hk, Array.getElem_setIfInBounds]
  by_cases e : i = k
  ·subst e; simp
  ·have : ¬ k = i := fun h => e h.symm
   simp [e, this]
 ·have : ¬ k = i := by omega
  simp [Array.getD, hk, this]
theorem ready_lt {listed : Array Bool} {i : Nat} (h : i ∈ Region.ready .any ops listed) : i < ops.size := by
 obtain ⟨o, ho, _⟩ := ready_iff.1 h
 exact (Array.getElem?_eq_some_iff.1 ho).1
theorem Down.set {listed : Array Bool} {i : Nat} (hsz : listed.size = ops.size) (hd : Down ops listed) (h : i ∈ Region.ready .any ops listed) : Down ops (listed.setIfInBounds i true) := by
 have hi := ready_lt h
 obtain ⟨o, ho, h1, h2⟩ := ready_iff.1 h
 intro k o' ho' hk e he hb
 rw [getD_set (by rw [hsz]; exact hi)] at hk ⊢
 split
 ·rfl
 ·by_cases hki : k = i
  ·subst hki
   rw [ho] at ho'; cases ho'
   exact h2 e he hb
  ·rw [if_neg hki] at hk
   exact hd k o' ho' hk e he hb
theorem ready_set {listed : Array Bool} {i k : Nat} (hsz : listed.size = ops.size) (hi : i < ops.size) (h : k ∈ Region.ready .any ops listed) (hne : k ≠ i) : k ∈ Region.ready .any ops (listed.setIfInBounds i true) := by
 obtain ⟨o, ho, h1, h2⟩ := ready_iff.1 h
 refine ready_iff.2 ⟨o, ho, by rw [getD_set (by rw [hsz]; exact hi), if_neg hne]; exact h1, fun e he hb => ?_⟩
 rw [getD_set (by rw [hsz]; exact hi)]
 split
 ·rfl
 ·exact h2 e he hb
theorem AnyD.front {tab : List Nat} (ht : tabOk ops tab = true) {Q : St → Prop} {i : Nat} {a : Oper} (ha : ops[i]? = some a) : ∀ (n : Nat) (listed : Array Bool) (s s' : St),
  listed.size = ops.size → Down ops listed → i ∈ Region.ready .any ops listed →
  (∀ k b, ops[k]? = some b → listed.getD k true = false → k ≠ i → (tab.getD k 0).testBit i = false → pairOk E cl ops s i k a b = true) →
  Do E cl ops i s s' → AnyD E cl ops Q n (listed.setIfInBounds i true) s' → AnyD E cl ops Q (n + 1) listed s := by
 intro n
 induction n with
 | zero =>
  intro listed s s' hsz hd hi hs hdo hA
  refine ⟨fun e => (by rw [e] at hi; cases hi), fun k hk => ?_⟩
  by_cases hki : k = i
  ·subst hki; exact ⟨s', hdo, hA⟩
  ·have := ready_set hsz (ready_lt hi) hk hki
   rw [hA.1] at this; cases this
 | succ n ih =>
  intro listed s s' hsz hd hi hs hdo hA
  refine ⟨fun e => (by rw [e] at hi; cases hi), fun k hk => ?_⟩
  by_cases hki : k = i
  ·subst hki; exact ⟨s', hdo, hA⟩
  ·have hk' := ready_set hsz (ready_lt hi) hk hki
   obtain ⟨s'', hdk, hA'⟩ := hA.2 k hk'
   obtain ⟨b, hb, hb1, hb2⟩ := ready_iff.1 hk
   obtain ⟨a', ha', hi1, hi2⟩ := ready_iff.1 hi
   rw [ha] at ha'; cases ha'
   have hbit := ready_bit ht hsz hd hk hi1
   have hp := hs k b hb hb1 hki hbit
   obtain ⟨s1, q1, q2⟩ := swap ha hb hdo hdk hp
   refine ⟨s1, q1, ih (listed.setIfInBounds k true) s1 s'' (by simp [hsz]) (hd.set hsz hk) (ready_set hsz (ready_lt hk) hi (fun e => hki e.symm)) ?_ q2 ?_⟩
   ·intro k' b' hb' hk1 hk2 hk3
    rw [getD_set (by rw [hsz]; exact ready_lt hk)] at hk1
    have hne : ¬ k' = k := by intro e; rw [if_pos e] at hk1; cases hk1
    rw [if_neg hne] at hk1
    have hap : a.apart ops b = true := by unfold pairOk at hp; rw [Bool.and_eq_true] at hp; exact hp.1
    obtain ⟨_, _, p3⟩ := Oper.apart_spec hap
    have htm := q1.tm hb
    refine pairOk_state (k := k) (b := b) (hs k' b' hb' hk1 hk2 hk3) (fun x hx => ev_agree fun d e => htm.1 d fun e' => p3 d e' ?_) htm.2.2 (wants_agree (fun d hd => htm.1 d fun e => p3 d e hd) htm.2.1) (fun hca => pair_rg hb hp hca q1)
    subst e
    exact List.mem_append_left _ (List.mem_filterMap.2 ⟨.tmp d, by simpa using hx, rfl⟩)
   ·rw [Array.setIfInBounds_comm _ _ hki]
    exact hA'
inductive EvD (E : Env) (cl : Nat → Bool) (ops : Array Oper) (tab : List Nat) (Q : St → Prop) : Nat → Array Bool → St → Prop where
 | done {n listed s} : Region.ready .any ops listed = [] → Q s → EvD E cl ops tab Q n listed s
 | first {n listed s} (i : Nat) (s' : St) : i ∈ Region.ready .any ops listed → safeB E cl ops tab listed s i = true → Do E cl ops i s s' →
   EvD E cl ops tab Q n (listed.setIfInBounds i true) s' → EvD E cl ops tab Q (n + 1) listed s
 | all {n listed s} (f : Nat → St) : (∀ i ∈ Region.ready .any ops listed, Do E cl ops i s (f i)) →
   (∀ i ∈ Region.ready .any ops listed, EvD E cl ops tab Q n (listed.setIfInBounds i true) (f i)) → (Region.ready .any ops listed = [] → Q s) → EvD E cl ops tab Q (n + 1) listed s
theorem EvD.any {tab : List Nat} (ht : tabOk ops tab = true) {Q : St → Prop} {n : Nat} {listed : Array Bool} {s : St} (h : EvD E cl ops tab Q n listed s) :
  listed.size = ops.size → Down ops listed → AnyD E cl ops Q n listed s := by
 induction h with
 | @done n listed s h1 h2 =>
  intro _ _
  cases n with
  | zero => exact ⟨h1, h2⟩
  | succ n => exact ⟨fun _ => h2, fun i hi => by rw [h1] at hi; cases hi⟩
 | @first n listed s i s' hi hs hd _ ih =>
  intro hsz hdn
  obtain ⟨a, ha, hi1, hi2⟩ := ready_iff.1 hi
  refine AnyD.front ht ha n listed s s' hsz hdn hi (fun k b hb h1 h2 h3 => ?_) hd (ih (by simp [hsz]) (hdn.set hsz hi))
  have := List.all_eq_true.1 hs k (List.mem_range.2 (Array.getElem?_eq_some_iff.1 hb).1)
  simp only [h1, h3, ha, hb, Bool.false_or, Bool.or_eq_true, beq_iff_eq] at this
  rcases this with this | this
  ·rcases this with this | this
   ·exact absurd this h2
   ·cases this
  ·exact this
 | all f hd _ hq ih =>
  intro hsz hdn
  exact ⟨hq, fun i hi => ⟨f i, hd i hi, ih i hi (by simp [hsz]) (hdn.set hsz hi)⟩⟩
theorem Ev.drawn {id : Nat} {s : St} {Q : X → St → Prop} {tab : List Nat} (hm : E.P.follows .mixedOrders = true) (ht : tabOk ops tab = true)
  (h : EvD E cl ops tab (Q .normal) ops.size (Array.replicate ops.size false) s) : Ev E (.code (.region id ops true) s Q) := by
 refine .regionD fun t => ?_
 simp only [Region.schedule, hm, Bool.true_or, if_true]
 refine AnyD.sound _ _ _ _ (h.any ht (by simp) fun k o ho hk => ?_)
 have hlt := (Array.getElem?_eq_some_iff.1 ho).1
 simp [Array.getD, hlt] at hk
end
end Go.Vm
set_option linter.unusedVariables false
namespace Go.Vm
open Go
def PrimMono (E : Env) : Prop := ∀ f args g (Q Q' : V → G → Prop), (∀ v g', Q v g' → Q' v g') → E.prim f args g Q → E.prim f args g Q'
def Weak (E : Env) : J → Prop
 | .code c s Q => ∀ Q', (∀ e s', Q e s' → Q' e s') → Ev E (.code c s Q')
 | .ops ops l s Q => ∀ Q', (∀ s', Q s' → Q' s') → Ev E (.ops ops l s Q')
 | .call f args g Q => ∀ Q', (∀ v g', Q v g' → Q' v g') → Ev E (.call f args g Q')
theorem Ev.weak {E : Env} (hp : PrimMono E) {j : J} (h : Ev E j) : Weak E j := by
 induction h with
 | skip hq => exact fun Q' hw => .skip (hw _ _ hq)
 | ret hq => exact fun Q' hw => .ret (hw _ _ hq)
 | exit hq => exact fun Q' hw => .exit (hw _ _ hq)
 | seq Q1 h1 h2 h3 _ ih2 => exact fun Q' hw => .seq Q1 h1 (fun s' hs => ih2 s' hs Q' hw) (fun e s' he hs => hw _ _ (h3 e s' he hs))
 | cond t ht h ih => exact fun Q' hw => .cond t ht (ih Q' hw)
 | block Q1 h1 h2 h3 h4 _ =>
  refine fun Q' hw => .block Q1 h1 (fun s' hs => hw _ _ (h2 s' hs)) (fun id' s' hs => ?_) (fun s' hs => hw _ _ (h4 s' hs))
  have := h3 id' s' hs
  split
  ·rename_i hid; rw [if_pos hid] at this; exact hw _ _ this
  ·rename_i hid; rw [if_neg hid] at this; exact hw _ _ this
 | loop Q1 h1 h2 h3 _ ih2 => exact fun Q' hw => .loop Q1 h1 (fun s' hs => ih2 s' hs Q' hw) (fun e s' he hs => hw _ _ (h3 e s' he hs))
 | region h ih => exact fun Q' hw => .region (ih _ fun s' hs => hw _ _ hs)
 | regionD h ih => exact fun Q' hw => .regionD fun t => ih t _ fun s' hs => hw _ _ hs
 | nil hq => exact fun Q' hw => .nil (hw _ hq)
 | skipOp a b c _ ih => exact fun Q' hw => .skipOp a b c (ih Q' hw)
 | step a b c d _ ih => exact fun Q' hw => .step a b c d (ih Q' hw)
 | next sf a b c d e f _ ih => exact fun Q' hw => .next sf a b c d e f fun x hx => ih x hx Q' hw
 | callOp Q1 sf a b c d e _ _ ih => exact fun Q' hw => .callOp Q1 sf a b c d e fun v g hq => ih v g hq Q' hw
 | fnKeep Q1 a b c d e _ =>
  refine fun Q' hw => .fnKeep Q1 a b c d fun x s' hq => ?_
  obtain ⟨p, vs, r, q⟩ := e x s' hq
  exact ⟨p, vs, r, hw _ _ q⟩
 | fnClean Q1 a b c d e _ =>
  refine fun Q' hw => .fnClean Q1 a b c d fun x s' hq => ?_
  obtain ⟨p, vs, ws, r, t, u, x, q⟩ := e x s' hq
  exact ⟨p, vs, ws, r, t, u, x, hw _ _ q⟩
 | prim h => exact fun Q' hw => .prim (hp _ _ _ _ _ hw h)
theorem Ev.monoC {E : Env} (hp : PrimMono E) {c : Code} {s : St} {Q Q' : X → St → Prop} (h : Ev E (.code c s Q)) (hw : ∀ e s', Q e s' → Q' e s') : Ev E (.code c s Q') := h.weak hp Q' hw
theorem Ev.monoO {E : Env} (hp : PrimMono E) {ops : Array Oper} {l : List Nat} {s : St} {Q Q' : St → Prop} (h : Ev E (.ops ops l s Q)) (hw : ∀ s', Q s' → Q' s') : Ev E (.ops ops l s Q') := h.weak hp Q' hw
theorem Ev.monoF {E : Env} (hp : PrimMono E) {f : FuncId} {args : List V} {g : G} {Q Q' : V → G → Prop} (h : Ev E (.call f args g Q)) (hw : ∀ v g', Q v g' → Q' v g') : Ev E (.call f args g Q') := h.weak hp Q' hw
end Go.Vm
set_option linter.unusedVariables false
namespace Go.Vm
open Go
def pairS (cl : Nat → Bool) (esc : Nat → Bool) (ops : Array Oper) (i k : Nat) (a b : Oper) : Option Nat :=
  bif a.apart ops b then
    match clOf esc a, clOf esc b with
    | .q, _ => some 0
    | _, .q => some 0
    | .r, .r => some 0
    | .r, .c => bif cl k then some 0 else some 2
    | .r, .l => some 1
    | .r, .n => some 1
    | .c, .r => bif cl i then some 0 else none
    | .c, .c => bif cl i && cl k then some 0 else none
    | .c, .l => bif cl i && near esc b then some 0 else none
    | .l, .n => bif near esc a then some 0 else none
    | .l, .l => bif near esc a || near esc b then some 0 else none
    | .l, .c => bif near esc a then some 0 else none
    | .n, .l => bif near esc b then some 0 else none
    | _, _ => none
  else none
def planAt (strict : Bool) (cl : Nat → Bool) (esc : Nat → Bool) (ops : Array Oper) (tab : List Nat) (mask : Nat) (i : Nat) (a : Oper) : Nat → List Oper → Option (List (Nat × Bool))
  | _, [] => some []
  | k, b :: l => bif mask.testBit k || Nat.beq k i || (tab.getD k 0).testBit i then planAt strict cl esc ops tab mask i a (k + 1) l else
    match pairS cl esc ops i k a b with
    | none => none
    | some t => match planAt strict cl esc ops tab mask i a (k + 1) l with
      | none => none
      | some r => match t with
        | 0 => some r
        | 1 => some ((k, false) :: r)
        | _ => bif strict then none else some ((k, true) :: r)
def freeB (mask : Nat) (o : Oper) : Bool := o.after.toList.all fun e => !Region.binds .any e || mask.testBit e.on
def readyM (mask : Nat) : Nat → List Oper → List Nat
  | _, [] => []
  | k, o :: l => bif !mask.testBit k && freeB mask o then k :: readyM mask (k + 1) l else readyM mask (k + 1) l
def firstSafe (strict : Bool) (cl : Nat → Bool) (esc : Nat → Bool) (ops : Array Oper) (tab : List Nat) (mask : Nat) : List Nat → Option (Nat × List (Nat × Bool))
  | [] => none
  | i :: l => match ops[i]? with
    | none => none
    | some a => match planAt strict cl esc ops tab mask i a 0 ops.toList with
      | some r => some (i, r)
      | none => firstSafe strict cl esc ops tab mask l
def addrsOk (E : Env) (ops : Array Oper) (s : St) (a : Oper) : List (Nat × Bool) → Bool
  | [] => true
  | (k, t) :: l => (bif t then localOk E ops s a else match ops[k]? with
    | some b => addrOk E s a b
    | none => true) && addrsOk E ops s a l
inductive EvM (E : Env) (cl : Nat → Bool) (esc : Nat → Bool) (ops : Array Oper) (tab : List Nat) (Q : St → Prop) : Nat → Nat → St → Prop where
  | done {n mask s} : readyM mask 0 ops.toList = [] → Q s → EvM E cl esc ops tab Q n mask s
  | one {n mask i ad s s' a} (strict : Bool) : firstSafe strict cl esc ops tab mask (readyM mask 0 ops.toList) = some (i, ad) → ops[i]? = some a → addrsOk E ops s a ad = true → Do E cl ops i s s' →
      EvM E cl esc ops tab Q n (mask ||| 2 ^ i) s' → EvM E cl esc ops tab Q (n + 1) mask s
  | all {n mask s} (f : Nat → St) : readyM mask 0 ops.toList ≠ [] → (∀ i, i ∈ readyM mask 0 ops.toList → Do E cl ops i s (f i)) →
      (∀ i, i ∈ readyM mask 0 ops.toList → EvM E cl esc ops tab Q n (mask ||| 2 ^ i) (f i)) → EvM E cl esc ops tab Q (n + 1) mask s
section
variable {E : Env} {cl : Nat → Bool} {ops : Array Oper}
theorem pairS_ok {esc : Nat → Bool} {i k : Nat} {a b : Oper} {t : Nat} (h : pairS cl esc ops i k a b = some t) {s : St} (he : s.esc = esc) (ha : t = 1 → addrOk E s a b = true) (hl : t ≠ 0 → t ≠ 1 → localOk E ops s a = true) : pairOk E cl ops s i k a b = true := by
  subst he
  have hn : (match b.dst with | some d => !s.esc d | none => false) = near s.esc b := rfl
  unfold pairS at h
  unfold pairOk
  cases hap : a.apart ops b with
  | false => rw [hap] at h; simp at h
  | true =>
    rw [hap] at h
    simp only [cond_true] at h
    simp only [Bool.true_and]
    revert h
    cases clOf s.esc a <;> cases clOf s.esc b <;> intro h <;>
      first
      | rfl
      | (simp only at h; cases h; exact ha rfl)
      | (simp only at h
         cases h)
      | (simp only at h ⊢
         cases hx : cl i <;> rw [hx] at h <;> simp_all; done)
      | (simp only at h ⊢
         cases hx : cl k <;> rw [hx] at h <;> simp only [cond_true, cond_false] at h <;> cases h <;> simp [hl]; done)
      | (simp only at h ⊢
         cases hx : cl i <;> cases hy : cl k <;> rw [hx, hy] at h <;> simp_all; done)
      | (simp only at h ⊢
         cases hx : near s.esc a <;> rw [hx] at h <;> simp_all; done)
      | (simp only at h ⊢
         cases hx : near s.esc b <;> rw [hx] at h <;> simp_all; done)
      | (simp only at h ⊢
         cases hx : near s.esc a <;> cases hy : near s.esc b <;> rw [hx, hy] at h <;> simp_all; done)
      | (simp only at h ⊢
         cases hx : cl i <;> cases hy : near s.esc b <;> rw [hx, hy] at h <;> first | (simp_all; done) | (simp_all; exact hn))
theorem planAt_ok {strict : Bool} {esc : Nat → Bool} {tab : List Nat} {mask i : Nat} {a : Oper} : ∀ (l : List Oper) (k : Nat) (r : List (Nat × Bool)), planAt strict cl esc ops tab mask i a k l = some r →
    ∀ (j : Nat) (b : Oper), l[j]? = some b → mask.testBit (k + j) = false → k + j ≠ i → (tab.getD (k + j) 0).testBit i = false → ∃ t, pairS cl esc ops i (k + j) a b = some t ∧ (t = 1 → (k + j, false) ∈ r) ∧ (t ≠ 0 → t ≠ 1 → (k + j, true) ∈ r) := by
  intro l
  induction l with
  | nil => intro k r _ j b h; simp at h
  | cons x l ih =>
    intro k r h j b hb hm hne hbit
    unfold planAt at h
    cases hc : mask.testBit k || Nat.beq k i || (tab.getD k 0).testBit i with
    | true =>
      rw [hc] at h
      simp only [cond_true] at h
      cases j with
      | zero =>
        exfalso
        simp only [Nat.add_zero] at hm hbit hne
        rw [hm, hbit, Bool.or_false, Bool.false_or] at hc
        exact hne (Nat.eq_of_beq_eq_true hc)
      | succ j =>
        simp at hb
        rw [show k + (j + 1) = k + 1 + j by omega] at *
        exact ih (k + 1) r h j b hb hm hne hbit
    | false =>
      rw [hc] at h
      simp only [cond_false] at h
      cases hp : pairS cl esc ops i k a x with
      | none => rw [hp] at h; cases h
      | some t =>
        rw [hp] at h
        simp only at h
        cases hr : planAt strict cl esc ops tab mask i a (k + 1) l with
        | none => rw [hr] at h; cases h
        | some r' =>
          rw [hr] at h
          simp only at h
          have sub : ∀ y ∈ r', y ∈ r := by
            intro y hy
            split at h
            · cases h; exact hy
            · cases h; exact List.mem_cons_of_mem _ hy
            · cases strict <;> simp only [cond_true, cond_false] at h <;> cases h
              exact List.mem_cons_of_mem _ hy
          cases j with
          | zero =>
            simp at hb; subst hb
            refine ⟨t, by simpa using hp, fun e => ?_, fun e1 e2 => ?_⟩
            · subst e
              simp only at h
              cases h
              simp
            · split at h
              · exact absurd rfl e1
              · exact absurd rfl e2
              · cases strict <;> simp only [cond_true, cond_false] at h <;> cases h; simp
          | succ j =>
            simp at hb
            rw [show k + (j + 1) = k + 1 + j by omega] at *
            obtain ⟨t', h1, h2, h3⟩ := ih (k + 1) r' hr j b hb hm hne hbit
            exact ⟨t', h1, fun e => sub _ (h2 e), fun e1 e2 => sub _ (h3 e1 e2)⟩
theorem readyM_iff {mask : Nat} : ∀ (l : List Oper) (k i : Nat), i ∈ readyM mask k l ↔ ∃ j o, i = k + j ∧ l[j]? = some o ∧ mask.testBit i = false ∧ freeB mask o = true := by
  intro l
  induction l with
  | nil => intro k i; simp [readyM]
  | cons x l ih =>
    intro k i
    have tail : (∃ j o, i = k + 1 + j ∧ l[j]? = some o ∧ mask.testBit i = false ∧ freeB mask o = true) ↔ ∃ j o, i = k + (j + 1) ∧ (x :: l)[j + 1]? = some o ∧ mask.testBit i = false ∧ freeB mask o = true := by
      constructor
      · rintro ⟨j, o, h1, h2⟩; exact ⟨j, o, by omega, by simpa using h2⟩
      · rintro ⟨j, o, h1, h2⟩; exact ⟨j, o, by omega, by simpa using h2⟩
    unfold readyM
    cases hc : !mask.testBit k && freeB mask x with
    | true =>
      simp only [Bool.and_eq_true, Bool.not_eq_true'] at hc
      simp only [cond_true, List.mem_cons, ih, tail]
      constructor
      · rintro (rfl | ⟨j, o, h⟩)
        · exact ⟨0, x, rfl, rfl, hc.1, hc.2⟩
        · exact ⟨j + 1, o, h⟩
      · rintro ⟨j, o, h1, h2, h3⟩
        cases j with
        | zero => exact Or.inl h1
        | succ j => exact Or.inr ⟨j, o, h1, h2, h3⟩
    | false =>
      simp only [cond_false, ih, tail]
      constructor
      · rintro ⟨j, o, h⟩; exact ⟨j + 1, o, h⟩
      · rintro ⟨j, o, h1, h2, h3, h4⟩
        cases j with
        | zero =>
          exfalso
          simp at h1 h2
          subst h1 h2
          rw [h3, h4] at hc
          simp at hc
        | succ j => exact ⟨j, o, h1, h2, h3, h4⟩
def Bits (ops : Array Oper) (listed : Array Bool) (mask : Nat) : Prop := listed.size = ops.size ∧ (∀ k, k < ops.size → listed.getD k true = mask.testBit k) ∧ ∀ k, ops.size ≤ k → mask.testBit k = false
theorem Bits.ready {listed : Array Bool} {mask : Nat} (h : Bits ops listed mask) {i : Nat} : i ∈ Region.ready .any ops listed ↔ i ∈ readyM mask 0 ops.toList := by
  rw [readyM_iff, ready_iff]
  have key : ∀ (o : Oper), (∀ e ∈ o.after.toList, Region.binds .any e = true → listed.getD e.on false = true) ↔ freeB mask o = true := by
    intro o
    unfold freeB
    rw [List.all_eq_true]
    have one : ∀ n, listed.getD n false = mask.testBit n := by
      intro n
      by_cases hn : n < ops.size
      · rw [← h.2.1 n hn]
        have : n < listed.size := by rw [h.1]; exact hn
        simp [Array.getD, this]
      · rw [h.2.2 n (by omega)]
        have : ¬ n < listed.size := by rw [h.1]; exact hn
        simp [Array.getD, this]
    constructor
    · intro hh e he
      cases hb : Region.binds .any e
      · rfl
      · simp only [Bool.not_true, Bool.false_or]; rw [← one]; exact hh e he hb
    · intro hh e he hb
      have := hh e he
      rw [hb] at this
      simp only [Bool.not_true, Bool.false_or] at this
      rw [one]; exact this
  constructor
  · rintro ⟨o, h1, h2, h3⟩
    have hlt := (Array.getElem?_eq_some_iff.1 h1).1
    exact ⟨i, o, by omega, by simpa using h1, by rw [← h.2.1 i hlt]; exact h2, (key o).1 h3⟩
  · rintro ⟨j, o, h1, h2, h3, h4⟩
    have : j = i := by omega
    subst this
    have ho : ops[j]? = some o := by simpa using h2
    have hlt := (Array.getElem?_eq_some_iff.1 ho).1
    exact ⟨o, ho, by rw [h.2.1 j hlt]; exact h3, (key o).2 h4⟩
theorem Bits.set {listed : Array Bool} {mask : Nat} (h : Bits ops listed mask) {i : Nat} (hi : i < ops.size) : Bits ops (listed.setIfInBounds i true) (mask ||| 2 ^ i) := by
  refine ⟨by simp [h.1], fun k hk => ?_, fun k hk => ?_⟩
  · rw [getD_set (by rw [h.1]; exact hi), Nat.testBit_or, Nat.testBit_two_pow]
    by_cases hki : k = i
    · simp [hki]
    · have : ¬ i = k := fun e => hki e.symm
      simp [hki, this, h.2.1 k hk]
  · rw [Nat.testBit_or, Nat.testBit_two_pow, h.2.2 k hk]
    have : ¬ i = k := by omega
    simp [this]
theorem addrsOk_at {s : St} {a : Oper} : ∀ {l : List (Nat × Bool)}, addrsOk E ops s a l = true → (∀ k, (k, false) ∈ l → ∀ b, ops[k]? = some b → addrOk E s a b = true) ∧ ∀ k, (k, true) ∈ l → localOk E ops s a = true := by
  intro l
  induction l with
  | nil => intro _; exact ⟨fun k hk => by (cases hk), fun k hk => by (cases hk)⟩
  | cons x l ih =>
    obtain ⟨k0, t⟩ := x
    intro h
    simp only [addrsOk, Bool.and_eq_true] at h
    refine ⟨fun k hk b hb => ?_, fun k hk => ?_⟩
    · rcases List.mem_cons.1 hk with e | hk
      · cases e
        have := h.1; simp only [cond_false] at this; rw [hb] at this; exact this
      · exact (ih h.2).1 k hk b hb
    · rcases List.mem_cons.1 hk with e | hk
      · cases e
        exact h.1
      · exact (ih h.2).2 k hk
theorem firstSafe_ok {strict : Bool} {esc : Nat → Bool} {tab : List Nat} {mask : Nat} : ∀ (l : List Nat) (i : Nat) (ad : List (Nat × Bool)), firstSafe strict cl esc ops tab mask l = some (i, ad) →
    i ∈ l ∧ ∃ a, ops[i]? = some a ∧ planAt strict cl esc ops tab mask i a 0 ops.toList = some ad := by
  intro l
  induction l with
  | nil => intro i ad h; cases h
  | cons x l ih =>
    intro i ad h
    unfold firstSafe at h
    cases ho : ops[x]? with
    | none => rw [ho] at h; cases h
    | some a =>
      rw [ho] at h
      simp only at h
      cases hp : planAt strict cl esc ops tab mask x a 0 ops.toList with
      | some r =>
        rw [hp] at h
        cases h
        exact ⟨by simp, a, ho, hp⟩
      | none =>
        rw [hp] at h
        obtain ⟨h1, h2⟩ := ih i ad h
        exact ⟨List.mem_cons_of_mem _ h1, h2⟩
theorem EvM.evD {tab : List Nat} {esc : Nat → Bool} {Q : St → Prop} {n mask : Nat} {s : St} (h : EvM E cl esc ops tab Q n mask s) : ∀ listed : Array Bool, Bits ops listed mask → s.esc = esc → EvD E cl ops tab Q n listed s := by
  induction h with
  | done hr hq =>
    intro listed hb he
    refine .done ?_ hq
    rw [List.eq_nil_iff_forall_not_mem]
    intro i hi
    rw [hb.ready, hr] at hi
    cases hi
  | @one n mask i ad s s' a strict hf ha had hdo _ ih =>
    intro listed hb he
    obtain ⟨f1, a', f2, f3⟩ := firstSafe_ok _ i ad hf
    rw [ha] at f2; cases f2
    have hlt := (Array.getElem?_eq_some_iff.1 ha).1
    refine .first i s' (hb.ready.2 f1) ?_ hdo (ih _ (hb.set hlt) (by rw [(hdo.tm ha).2.2]; exact he))
    unfold safeB
    rw [List.all_eq_true]
    intro k hk
    have hk := List.mem_range.1 hk
    rw [hb.2.1 k hk]
    cases hm : mask.testBit k with
    | true => simp
    | false =>
      by_cases h2 : k = i
      · simp [h2]
      · have hbk : ops[k]? = some ops[k] := by simp [hk]
        rw [ha, hbk]
        cases hbit : (tab.getD k 0).testBit i with
        | true => simp
        | false =>
          obtain ⟨t, q1, q2, q3⟩ := planAt_ok _ 0 ad f3 k ops[k] (by simp [hk]) (by rw [Nat.zero_add]; exact hm) (by rw [Nat.zero_add]; exact h2) (by rw [Nat.zero_add]; exact hbit)
          rw [Nat.zero_add] at q1 q2 q3
          have := pairS_ok (E := E) q1 he (fun e => (addrsOk_at had).1 k (q2 e) _ hbk) (fun e1 e2 => (addrsOk_at had).2 k (q3 e1 e2))
          simp [this]
  | @all n mask s f hne h1 _ ih =>
    intro listed hb he
    refine .all f (fun i hi => h1 i (hb.ready.1 hi)) (fun i hi => ?_) (fun e => ?_)
    · obtain ⟨o, ho, _⟩ := ready_iff.1 hi
      have hlt := (Array.getElem?_eq_some_iff.1 ho).1
      exact ih i (hb.ready.1 hi) _ (hb.set hlt) (by rw [((h1 i (hb.ready.1 hi)).tm ho).2.2]; exact he)
    · exfalso
      obtain ⟨r, l, hr⟩ := List.exists_cons_of_ne_nil hne
      have : r ∈ Region.ready .any ops listed := hb.ready.2 (by rw [hr]; simp)
      rw [e] at this; cases this
theorem EvM.sound {id : Nat} {s : St} {Q : X → St → Prop} (hm : E.P.follows .mixedOrders = true) (ht : tabOk ops (aheads ops) = true)
    (h : EvM E cl s.esc ops (aheads ops) (Q .normal) ops.size 0 s) : Ev E (.code (.region id ops true) s Q) := by
  refine Ev.drawn (cl := cl) hm ht (h.evD _ ⟨by simp, fun k hk => ?_, fun k _ => by simp⟩ rfl)
  simp [Array.getD, hk]
end
end Go.Vm
set_option linter.unusedVariables false
namespace Go.Vm
open Go
inductive Tr where
 | nil
 | node (v : V) (l r : Tr)
def Tr.get : Tr → Nat → V
 | .nil, _ => .undef
 | .node v l r, i => match i with
  | 0 => v
  | i + 1 => bif Nat.beq (Nat.mod i 2) 0 then l.get (Nat.div i 2) else r.get (Nat.div i 2)
def Tr.set : Nat → Tr → Nat → V → Tr
 | 0, t, _, _ => t
 | d + 1, .nil, i, v => match i with
  | 0 => .node v .nil .nil
  | i + 1 => bif Nat.beq (Nat.mod i 2) 0 then .node .undef (Tr.set d .nil (Nat.div i 2) v) .nil else .node .undef .nil (Tr.set d .nil (Nat.div i 2) v)
 | d + 1, .node x l r, i, v => match i with
  | 0 => .node v l r
  | i + 1 => bif Nat.beq (Nat.mod i 2) 0 then .node x (l.set d (Nat.div i 2) v) r else .node x l (r.set d (Nat.div i 2) v)
def Tr.args (n : Nat) (t : Tr) : List V → Tr
 | [] => t
 | v :: l => Tr.args (n + 1) (t.set 12 n v) l
def rgGet : List (Nat × (Nat × List V)) → Nat → Option (Nat × List V)
 | [], _ => none
 | (k, x) :: l, t => bif Nat.beq k t then some x else rgGet l t
def rgSet : List (Nat × (Nat × List V)) → Nat → Nat × List V → List (Nat × (Nat × List V))
 | [], t, x => [(t, x)]
 | (k, y) :: l, t, x => bif Nat.beq k t then (k, x) :: l else (k, y) :: rgSet l t x
structure Fr where
 tr : Tr
 rg : List (Nat × (Nat × List V))
 g : G
def Fr.st (nt : Nat) (esc : Nat → Bool) (x : Fr) : St := { nt := nt, tm := fun t => x.tr.get t, rg := fun t => rgGet x.rg t, esc := esc, g := x.g }
def Fr.put (nt : Nat) (x : Fr) (dst : Option Tmp) (v : V) : Option Fr :=
 match dst with
 | none => some x
 | some d => bif Nat.blt d nt && Nat.blt d 4000 then some { x with tr := x.tr.set 12 d v } else none
def rgKey (E : Env) (s : St) (o : Oper) : Option Nat :=
 match o.op with
 | .alloc _ => o.dst
 | .box _ _ => o.dst
 | .store _ a _ => match s.ev E a with
  | some (.loc t _ _) => some t
  | _ => none
 | _ => none
def rgAfter (l : List (Nat × (Nat × List V))) (key : Option Nat) (s1 : St) : Option (List (Nat × (Nat × List V))) :=
 match key with
 | none => some l
 | some t => match s1.rg t with
  | some x => some (rgSet l t x)
  | none => match rgGet l t with
   | none => some l
   | some _ => none
def fNat {α : Type} (n : Nat) (k : Nat → α) : α :=
 match n with
 | 0 => k 0
 | m + 1 => k (m + 1)
def fInt {α : Type} (n : Int) (k : Int → α) : α :=
 match n with
 | .ofNat m => fNat m fun m => k (.ofNat m)
 | .negSucc m => fNat m fun m => k (.negSucc m)
def fV {α : Type} (v : V) (k : V → α) : α :=
 match v with
 | .p x => match x with
  | .int i n => fInt n fun n => k (.p (.int i n))
  | .bool b => match b with
   | true => k (.p (.bool true))
   | false => k (.p (.bool false))
  | x => k (.p x)
 | .sl rows s => k (.sl rows s)
 | .arr a b c d e => fNat b fun b => fNat c fun c => k (.arr a b c d e)
 | .ptr a b => fNat b fun b => k (.ptr a b)
 | v => k v
def fL {α β : Type} (l : List β) (k : List β → α) : α :=
 match l with
 | [] => k []
 | a :: l => k (a :: l)
def fG {α : Type} (g : G) (k : G → α) : α :=
 match g with
 | ⟨objs, toks, wo, wt⟩ => fL objs fun objs => fL toks fun toks => fNat wo fun wo => fNat wt fun wt => k ⟨objs, toks, wo, wt⟩
mutual
def PV.same : PV → PV → Bool
 | .int k n, .int k' n' => k == k' && n == n'
 | .bool b, .bool b' => b == b'
 | .str s, .str s' => s.data.toList == s'.data.toList
 | .flt k b, .flt k' b' => k == k' && b == b'
 | .nilsl, .nilsl => true
 | .nilptr, .nilptr => true
 | .nilmap, .nilmap => true
 | .nilfn, .nilfn => true
 | .nilif, .nilif => true
 | .sl a, .sl b => sameRows a b
 | _, _ => false
def sameRow : List PV → List PV → Bool
 | [], [] => true
 | a :: l, b :: m => PV.same a b && sameRow l m
 | _, _ => false
def sameRows : List (List PV) → List (List PV) → Bool
 | [], [] => true
 | a :: l, b :: m => sameRow a b && sameRows l m
 | _, _ => false
end
def samePL : List V → List V → Bool
 | [], [] => true
 | .p a :: l, .p b :: m => PV.same a b && samePL l m
 | .agg a :: l, .agg b :: m => (match pvCells a, pvCells b with
  | some x, some y => sameRow x y
  | _, _ => false) && samePL l m
 | _, _ => false
def sameSK : SK → SK → Bool
 | .exact, .exact => true
 | .own a b c, .own a' b' c' => Nat.beq a a' && Nat.beq b b' && Nat.beq c c'
 | _, _ => false
mutual
def sameV : V → V → Bool
 | .p x, .p y => PV.same x y
 | .sl r k, .sl r' k' => sameVR r r' && sameSK k k'
 | .arr a b c d e, .arr a' b' c' d' e' => Nat.beq a a' && Nat.beq b b' && Nat.beq c c' && Nat.beq d d' && Nat.beq e e'
 | .ptr a b, .ptr a' b' => Nat.beq a a' && Nat.beq b b'
 | .ref r, .ref r' => sameVs r r'
 | .loc a b c, .loc a' b' c' => Nat.beq a a' && Nat.beq b b' && Nat.beq c c'
 | .map a, .map a' => Nat.beq a a'
 | .fn (.func f) r, .fn (.func f') r' => Nat.beq f f' && sameVs r r'
 | .agg r, .agg r' => sameVs r r'
 | .tup r, .tup r' => sameVs r r'
 | .undef, .undef => true
 | _, _ => false
def sameVs : List V → List V → Bool
 | [], [] => true
 | a :: l, b :: m => sameV a b && sameVs l m
 | _, _ => false
def sameVR : List (List V) → List (List V) → Bool
 | [], [] => true
 | a :: l, b :: m => sameVs a b && sameVR l m
 | _, _ => false
end
def sameNs : List Nat → List Nat → Bool
 | [], [] => true
 | a :: l, b :: m => Nat.beq a b && sameNs l m
 | _, _ => false
def sameEs : List (PV × V × Nat) → List (PV × V × Nat) → Bool
 | [], [] => true
 | (a, b, c) :: l, (a', b', c') :: m => PV.same a a' && sameV b b' && Nat.beq c c' && sameEs l m
 | _, _ => false
def sameON : Option Nat → Option Nat → Bool
 | none, none => true
 | some a, some b => Nat.beq a b
 | _, _ => false
def sameOb : Ob → Ob → Bool
 | .cells a, .cells b => sameVs a b
 | .map a c, .map b d => sameEs a b && Nat.beq c d
 | .iter a b c d, .iter a' b' c' d' => sameON a a' && Nat.beq b b' && sameNs c c' && Nat.beq d d'
 | .dead, .dead => true
 | _, _ => false
def sameObs : List Ob → List Ob → Bool
 | [], [] => true
 | a :: l, b :: m => sameOb a b && sameObs l m
 | _, _ => false
def sameG : G → G → Bool
 | ⟨a, b, c, d⟩, ⟨a', b', c', d'⟩ => sameObs a a' && sameNs b b' && Nat.beq c c' && Nat.beq d d'
def sameTr : Tr → Tr → Bool
 | .nil, .nil => true
 | .node v l r, .node v' l' r' => sameV v v' && sameTr l l' && sameTr r r'
 | _, _ => false
def sameRg : List (Nat × (Nat × List V)) → List (Nat × (Nat × List V)) → Bool
 | [], [] => true
 | (a, b, c) :: l, (a', b', c') :: m => Nat.beq a a' && Nat.beq b b' && sameVs c c' && sameRg l m
 | _, _ => false
def sameFr : Fr → Fr → Bool
 | ⟨a, b, c⟩, ⟨a', b', c'⟩ => sameTr a a' && sameRg b b' && sameG c c'
def mergeFr : List Fr → List Fr → List Fr
 | [], b => b
 | x :: l, b => bif b.any (sameFr x) then mergeFr l b else x :: mergeFr l b
inductive Out where
 | clean (vs : List (List V))
 | keep (l : List (List V × G))
def bindO {α β : Type} : List α → (α → Option (List β)) → Option (List β)
 | [], _ => some []
 | [a], f => f a
 | a :: l, f => match f a with
  | none => none
  | some x => match bindO l f with
   | none => none
   | some y => some (x ++ y)
def addOne (l : List (List V)) (v : List V) : List (List V) := if l.any (samePL v) then l else v :: l
def clean1 (E : Env) (nt : Nat) (esc : Nat → Bool) (g : G) (rs : List ResultVar) (x : Fr) (rest : Option (List (List V))) : Option (List (List V)) :=
 match resOf E (x.st nt esc) rs with
 | none => none
 | some vs => match sealL x.g vs with
  | none => none
  | some ws => bif Nat.beq x.g.wo g.objs.length && Nat.beq x.g.wt g.toks.length then
    (match rest with
    | none => none
    | some [] => some [ws]
    | some (w :: l') => some (addOne (w :: l') ws))
   else none
def cleanAll (E : Env) (nt : Nat) (esc : Nat → Bool) (g : G) (rs : List ResultVar) : List (X × Fr) → Option (List (List V))
 | [] => some []
 | (e, x) :: l => match e with
  | .exit _ => none
  | _ => clean1 E nt esc g rs x (cleanAll E nt esc g rs l)
def keep1 (E : Env) (nt : Nat) (esc : Nat → Bool) (g : G) (rs : List ResultVar) (x : Fr) (rest : Option (List (List V × G))) : Option (List (List V × G)) :=
 match resOf E (x.st nt esc) rs with
 | none => none
 | some vs => match rest with
  | none => none
  | some l' => some ((vs, { x.g with wo := min g.wo x.g.wo, wt := min g.wt x.g.wt }) :: l')
def keepAll (E : Env) (nt : Nat) (esc : Nat → Bool) (g : G) (rs : List ResultVar) : List (X × Fr) → Option (List (List V × G))
 | [] => some []
 | (e, x) :: l => match e with
  | .exit _ => none
  | _ => keep1 E nt esc g rs x (keepAll E nt esc g rs l)
structure Cfg where
 E : Env
 cleans : FuncId → Bool
 keeps : FuncId → Bool
def Cfg.cl (C : Cfg) (ops : Array Oper) (i : Nat) : Bool :=
 match ops[i]? with
 | some o => match o.op with
  | .call c => match c.callee with
   | .value (.func f) => C.cleans f
   | _ => true
  | _ => false
 | none => false
def enterX (args : List V) (g : G) : Fr :=
 { tr := Tr.args 0 .nil args, rg := [], g := { g with wo := g.objs.length, wt := g.toks.length } }
def put1 (nt : Nat) (x : Fr) (dst : Option Tmp) : List (List V) → Option (List Fr)
 | [] => some []
 | vs :: l => match x.put nt dst (pack vs), put1 nt x dst l with
  | some y, some ys => some (y :: ys)
  | _, _ => none
def put2 (nt : Nat) (x : Fr) (dst : Option Tmp) : List (List V × G) → Option (List Fr)
 | [] => some []
 | (vs, g) :: l => match Fr.put nt { x with g := g } dst (pack vs), put2 nt x dst l with
  | some y, some ys => some (y :: ys)
  | _, _ => none
def putAll (nt : Nat) (x : Fr) (dst : Option Tmp) : Out → Option (List Fr)
 | .clean vs => put1 nt x dst vs
 | .keep l => put2 nt x dst l
def nextAll (nt : Nat) (x : Fr) (dst : Option Tmp) (it : V) : List (Option (PV × V × Nat)) → Option (List Fr)
 | [] => some []
 | c :: l => match afterNext x.g it c with
  | none => none
  | some (v, g) => match Fr.put nt { x with g := g } dst v, nextAll nt x dst it l with
   | some y, some ys => some (y :: ys)
   | _, _ => none
section
variable (C : Cfg)
mutual
def runC : Nat → FuncId → Nat → Code → Fr → Option (List (X × Fr))
 | 0, _, _, _, _ => none
 | n + 1, F, nt, c, x => match c with
  | .skip => some [(.normal, x)]
  | .ret => some [(.ret, x)]
  | .exit id => some [(.exit id, x)]
  | .seq a b => match runC n F nt a x with
   | none => none
   | some l => bindO l fun r => match r with
    | (.normal, y) => runC n F nt b y
    | (.exit i, y) => some [(.exit i, y)]
    | (.ret, y) => some [(.ret, y)]
  | .cond c a b => match (x.st nt (C.E.esc F)).ev C.E c with
   | some (.p (.bool true)) => runC n F nt a x
   | some (.p (.bool false)) => runC n F nt b x
   | _ => none
  | .block id b => match runC n F nt b x with
   | none => none
   | some l => bindO l fun r => match r with
    | (.exit id', y) => bif Nat.beq id' id then some [(.normal, y)] else some [(.exit id', y)]
    | (.normal, y) => some [(.normal, y)]
    | (.ret, y) => some [(.ret, y)]
  | .loop b => match runC n F nt b x with
   | none => none
   | some l => bindO l fun r => match r with
    | (.normal, y) => runC n F nt (.loop b) y
    | (.exit i, y) => some [(.exit i, y)]
    | (.ret, y) => some [(.ret, y)]
  | .region id ops d => match d with
   | false => match runO n F nt ops (List.range ops.size) x with
    | none => none
    | some l => bindO l fun y => some [(.normal, y)]
   | true => bif tabOk ops (aheads ops) then
     match runT n F nt ops (aheads ops) ops.size 0 x with
     | none => none
     | some l => bindO l fun y => some [(.normal, y)]
    else none
  | _ => none
def runO : Nat → FuncId → Nat → Array Oper → List Nat → Fr → Option (List Fr)
 | 0, _, _, _, _, _ => none
 | n + 1, F, nt, ops, l, x => match l with
  | [] => some [x]
  | i :: l => match ops[i]? with
   | none => none
   | some o => match wants ops (x.st nt (C.E.esc F)) o with
    | none => none
    | some false => match x.put nt o.dst .undef with
     | none => none
     | some y => runO n F nt ops l y
    | some true => match stepV C.E (x.st nt (C.E.esc F)) o with
     | some (v, s) => fV v fun v => fG s.g fun g => match rgAfter x.rg (rgKey C.E (x.st nt (C.E.esc F)) o) s with
      | none => none
      | some rg => match Fr.put nt { tr := x.tr, rg := rg, g := g } o.dst v with
       | none => none
       | some y => runO n F nt ops l y
     | none => match callOf C.E (x.st nt (C.E.esc F)) o with
      | some (f, args) => match runF n f args x.g with
       | none => none
       | some out => match putAll nt x o.dst out with
        | none => none
        | some ys => bindO ys fun y => runO n F nt ops l y
      | none => match o.op with
       | .next it false => match (x.st nt (C.E.esc F)).ev C.E it with
        | none => none
        | some w => match nextOf x.g w with
         | none => none
         | some cs => match nextAll nt x o.dst w cs with
          | none => none
          | some ys => bindO ys fun y => runO n F nt ops l y
       | _ => none
def runT : Nat → FuncId → Nat → Array Oper → List Nat → Nat → Nat → Fr → Option (List Fr)
 | 0, _, _, _, _, _, _, _ => none
 | n + 1, F, nt, ops, tab, m, mask, x => match readyM mask 0 ops.toList with
  | [] => some [x]
  | r :: rs => match m with
   | 0 => none
   | m + 1 => match firstSafe false (C.cl ops) (C.E.esc F) ops tab mask (r :: rs) with
    | some (i, ad) => match ops[i]? with
     | none => none
     | some o => bif addrsOk C.E ops (x.st nt (C.E.esc F)) o ad then
       match runP n F nt ops i o x with
       | none => none
       | some y => runT n F nt ops tab m (mask ||| 2 ^ i) y
      else match firstSafe true (C.cl ops) (C.E.esc F) ops tab mask (r :: rs) with
       | some (i, ad) => match ops[i]? with
        | none => none
        | some o => bif addrsOk C.E ops (x.st nt (C.E.esc F)) o ad then
          match runP n F nt ops i o x with
          | none => none
          | some y => runT n F nt ops tab m (mask ||| 2 ^ i) y
         else none
       | none => runA n F nt ops tab m mask (r :: rs) x
    | none => runA n F nt ops tab m mask (r :: rs) x
def runP : Nat → FuncId → Nat → Array Oper → Nat → Oper → Fr → Option Fr
 | 0, _, _, _, _, _, _ => none
 | n + 1, F, nt, ops, i, o, x => match wants ops (x.st nt (C.E.esc F)) o with
  | none => none
  | some false => x.put nt o.dst .undef
  | some true => match stepV C.E (x.st nt (C.E.esc F)) o with
   | some (v, s) => fV v fun v => fG s.g fun g => match rgAfter x.rg (rgKey C.E (x.st nt (C.E.esc F)) o) s with
    | none => none
    | some rg => Fr.put nt { tr := x.tr, rg := rg, g := g } o.dst v
   | none => match callOf C.E (x.st nt (C.E.esc F)) o with
    | some (f, args) => match runF n f args x.g with
     | some (.clean [vs]) => x.put nt o.dst (pack vs)
     | some (.keep [(vs, g)]) => bif C.cl ops i then none else Fr.put nt { x with g := g } o.dst (pack vs)
     | _ => none
    | none => none
def runA : Nat → FuncId → Nat → Array Oper → List Nat → Nat → Nat → List Nat → Fr → Option (List Fr)
 | 0, _, _, _, _, _, _, _, _ => none
 | n + 1, F, nt, ops, tab, m, mask, l, x => match l with
  | [] => some []
  | i :: l => match ops[i]? with
   | none => none
   | some o => match runP n F nt ops i o x with
    | none => none
    | some y => match runT n F nt ops tab m (mask ||| 2 ^ i) y with
     | none => none
     | some a => match runA n F nt ops tab m mask l x with
      | none => none
      | some b => some (mergeFr a b)
def runF : Nat → FuncId → List V → G → Option Out
 | 0, _, _, _ => none
 | n + 1, f, args, g => match C.E.P.funcs[f]? with
  | none => none
  | some fn => match fn.body with
   | none => none
   | some body => bif Nat.ble args.length fn.ntmps && Nat.blt args.length 4000 then
     match runC n f fn.ntmps body (enterX args g) with
     | none => none
     | some outs => match (bif C.keeps f then none else cleanAll C.E fn.ntmps (C.E.esc f) g fn.results.toList outs) with
      | some vs => some (.clean vs)
      | none => match keepAll C.E fn.ntmps (C.E.esc f) g fn.results.toList outs with
       | some l => some (.keep l)
       | none => none
    else none
end
end
end Go.Vm
set_option linter.unusedVariables false
namespace Go.Vm
open Go
theorem Tr.get_set : ∀ (d : Nat) (t : Tr) (i : Nat) (v : V) (j : Nat), i + 1 < 2 ^ d → (t.set d i v).get j = if j = i then v else t.get j := by
  intro d
  induction d with
  | zero => intro t i v j h; simp at h
  | succ d ih =>
    intro t i v j h
    have nil : ∀ j, Tr.nil.get j = .undef := fun j => by cases j <;> rfl
    have hp : 2 ^ (d + 1) = 2 * 2 ^ d := by rw [Nat.pow_succ]; omega
    cases t with
    | nil =>
      cases i with
      | zero =>
        cases j with
        | zero => simp [Tr.set, Tr.get]
        | succ j => simp only [Tr.set, Tr.get]; rw [if_neg (by omega)]; cases Nat.beq (Nat.mod j 2) 0 <;> simp
      | succ i =>
        have hd : Nat.div i 2 = i / 2 := rfl
        have hm : ∀ x, Nat.mod x 2 = x % 2 := fun _ => rfl
        have hdj : ∀ x, Nat.div x 2 = x / 2 := fun _ => rfl
        cases hb : Nat.beq (Nat.mod i 2) 0 with
        | true =>
          have hi : i % 2 = 0 := Nat.eq_of_beq_eq_true hb
          simp only [Tr.set, hb, cond_true]
          cases j with
          | zero => simp [Tr.get]
          | succ j =>
            simp only [Tr.get]
            cases hj : Nat.beq (Nat.mod j 2) 0 with
            | true =>
              have hj' : j % 2 = 0 := Nat.eq_of_beq_eq_true hj
              simp only [cond_true]
              rw [ih _ _ _ _ (by rw [hd]; omega), nil]
              have : (Nat.div j 2 = Nat.div i 2) ↔ (j + 1 = i + 1) := by rw [hd, hdj]; omega
              simp only [this]
            | false =>
              have hj' : j % 2 ≠ 0 := fun e => by rw [hm, e] at hj; exact absurd hj (by decide)
              simp only [cond_false]
              rw [if_neg (by omega)]
        | false =>
          have hi : i % 2 ≠ 0 := fun e => by rw [hm, e] at hb; exact absurd hb (by decide)
          simp only [Tr.set, hb, cond_false]
          cases j with
          | zero => simp [Tr.get]
          | succ j =>
            simp only [Tr.get]
            cases hj : Nat.beq (Nat.mod j 2) 0 with
            | true =>
              have hj' : j % 2 = 0 := Nat.eq_of_beq_eq_true hj
              simp only [cond_true]
              rw [if_neg (by omega)]
            | false =>
              have hj' : j % 2 ≠ 0 := fun e => by rw [hm, e] at hj; exact absurd hj (by decide)
              simp only [cond_false]
              rw [ih _ _ _ _ (by rw [hd]; omega), nil]
              have : (Nat.div j 2 = Nat.div i 2) ↔ (j + 1 = i + 1) := by rw [hd, hdj]; omega
              simp only [this]
    | node x l r =>
      cases i with
      | zero =>
        cases j with
        | zero => simp [Tr.set, Tr.get]
        | succ j => simp only [Tr.set, Tr.get]; rw [if_neg (by omega)]
      | succ i =>
        have hd : Nat.div i 2 = i / 2 := rfl
        have hm : ∀ x, Nat.mod x 2 = x % 2 := fun _ => rfl
        have hdj : ∀ x, Nat.div x 2 = x / 2 := fun _ => rfl
        cases hb : Nat.beq (Nat.mod i 2) 0 with
        | true =>
          have hi : i % 2 = 0 := Nat.eq_of_beq_eq_true hb
          simp only [Tr.set, hb, cond_true]
          cases j with
          | zero => simp [Tr.get]
          | succ j =>
            simp only [Tr.get]
            cases hj : Nat.beq (Nat.mod j 2) 0 with
            | true =>
              have hj' : j % 2 = 0 := Nat.eq_of_beq_eq_true hj
              simp only [cond_true]
              rw [ih _ _ _ _ (by rw [hd]; omega)]
              have : (Nat.div j 2 = Nat.div i 2) ↔ (j + 1 = i + 1) := by rw [hd, hdj]; omega
              simp only [this]
            | false =>
              have hj' : j % 2 ≠ 0 := fun e => by rw [hm, e] at hj; exact absurd hj (by decide)
              simp only [cond_false]
              rw [if_neg (by omega)]
        | false =>
          have hi : i % 2 ≠ 0 := fun e => by rw [hm, e] at hb; exact absurd hb (by decide)
          simp only [Tr.set, hb, cond_false]
          cases j with
          | zero => simp [Tr.get]
          | succ j =>
            simp only [Tr.get]
            cases hj : Nat.beq (Nat.mod j 2) 0 with
            | true =>
              have hj' : j % 2 = 0 := Nat.eq_of_beq_eq_true hj
              simp only [cond_true]
              rw [if_neg (by omega)]
            | false =>
              have hj' : j % 2 ≠ 0 := fun e => by rw [hm, e] at hj; exact absurd hj (by decide)
              simp only [cond_false]
              rw [ih _ _ _ _ (by rw [hd]; omega)]
              have : (Nat.div j 2 = Nat.div i 2) ↔ (j + 1 = i + 1) := by rw [hd, hdj]; omega
              simp only [this]
theorem rgGet_set (l : List (Nat × (Nat × List V))) (t : Nat) (x : Nat × List V) (u : Nat) : rgGet (rgSet l t x) u = if u = t then some x else rgGet l u := by
  induction l with
  | nil =>
    simp only [rgSet, rgGet]
    cases hb : Nat.beq t u with
    | true => have := Nat.eq_of_beq_eq_true hb; simp [this]
    | false => rw [if_neg (fun e => by rw [e, Nat.beq_refl] at hb; cases hb)]; rfl
  | cons y l ih =>
    obtain ⟨k, y⟩ := y
    simp only [rgSet]
    cases hb : Nat.beq k t with
    | true =>
      have hk := Nat.eq_of_beq_eq_true hb
      subst hk
      simp only [cond_true, rgGet]
      cases hu : Nat.beq k u with
      | true => have := Nat.eq_of_beq_eq_true hu; simp [this]
      | false => rw [if_neg (fun e => by rw [e, Nat.beq_refl] at hu; cases hu)]; simp
    | false =>
      simp only [cond_false, rgGet, ih]
      cases hu : Nat.beq k u with
      | true =>
        have := Nat.eq_of_beq_eq_true hu
        subst this
        have hkt : k ≠ t := fun e => by rw [e, Nat.beq_refl] at hb; cases hb
        simp [hkt]
      | false => simp
theorem fNat_eq {α : Type} (n : Nat) (k : Nat → α) : fNat n k = k n := by cases n <;> rfl
theorem fInt_eq {α : Type} (n : Int) (k : Int → α) : fInt n k = k n := by cases n <;> simp [fInt, fNat_eq]
theorem fV_eq {α : Type} (v : V) (k : V → α) : fV v k = k v := by
  unfold fV
  split
  · split
    · rw [fInt_eq]
    · split <;> rfl
    · rfl
  · rfl
  · simp only [fNat_eq]
  · simp only [fNat_eq]
  · rfl
theorem fL_eq {α β : Type} (l : List β) (k : List β → α) : fL l k = k l := by cases l <;> rfl
theorem fG_eq {α : Type} (g : G) (k : G → α) : fG g k = k g := by cases g; simp only [fG, fL_eq, fNat_eq]
mutual
theorem PV.same_eq : ∀ (a b : PV), PV.same a b = true → a = b := by
  intro a b h
  cases a <;> cases b <;> first | rfl | (simp [PV.same] at h; done) | skip
  · simp [PV.same] at h; simp [h]
  · simp [PV.same] at h; simp [h]
  · rename_i s s'
    simp [PV.same] at h
    cases s; cases s'
    simp at h
    rw [h]
  · simp [PV.same] at h; simp [h]
  · rename_i r r'; simp [PV.same] at h; rw [sameRows_eq r r' h]
theorem sameRow_eq : ∀ (a b : List PV), sameRow a b = true → a = b := by
  intro a b h
  cases a <;> cases b <;> first | rfl | (simp [sameRow] at h; done) | skip
  rename_i x l y m
  simp [sameRow] at h
  rw [PV.same_eq x y h.1, sameRow_eq l m h.2]
theorem sameRows_eq : ∀ (a b : List (List PV)), sameRows a b = true → a = b := by
  intro a b h
  cases a <;> cases b <;> first | rfl | (simp [sameRows] at h; done) | skip
  rename_i x l y m
  simp [sameRows] at h
  rw [sameRow_eq x y h.1, sameRows_eq l m h.2]
end
theorem pvCells_eq : ∀ {l : List V} {r : List PV}, pvCells l = some r → l = r.map .p := by
  intro l
  induction l with
  | nil => intro r h; cases h; rfl
  | cons x l ih =>
    intro r h
    cases x <;> simp only [pvCells] at h <;> first | cases h | skip
    obtain ⟨r', h1, rfl⟩ := Option.map_eq_some_iff.1 h
    rw [ih h1]; rfl
theorem samePL_eq : ∀ (a b : List V), samePL a b = true → a = b := by
  intro a
  induction a with
  | nil => intro b h; cases b <;> first | rfl | (simp [samePL] at h)
  | cons x l ih =>
    intro b h
    cases b with
    | nil => cases x <;> simp [samePL] at h
    | cons y m =>
      cases x <;> cases y <;> first | (simp [samePL] at h; done) | skip
      · simp [samePL] at h; rw [PV.same_eq _ _ h.1, ih _ h.2]
      · simp only [samePL, Bool.and_eq_true] at h
        obtain ⟨h1, h2⟩ := h
        rw [ih _ h2]
        split at h1
        · rename_i p q hp hq
          rw [pvCells_eq hp, pvCells_eq hq, sameRow_eq _ _ h1]
        · cases h1
theorem beq_eq {a b : Nat} (h : Nat.beq a b = true) : a = b := Nat.eq_of_beq_eq_true h
theorem sameSK_eq : ∀ (a b : SK), sameSK a b = true → a = b := by
  intro a b h
  cases a <;> cases b <;> first | rfl | (simp [sameSK] at h; done) | skip
  simp only [sameSK, Bool.and_eq_true] at h
  rw [beq_eq h.1.1, beq_eq h.1.2, beq_eq h.2]
mutual
theorem sameV_eq : ∀ (a b : V), sameV a b = true → a = b := by
  intro a b h
  cases a with
  | p x => cases b <;> first | (simp [sameV] at h; done) | skip
           simp only [sameV] at h; rw [PV.same_eq _ _ h]
  | sl r k => cases b <;> first | (simp [sameV] at h; done) | skip
              simp only [sameV, Bool.and_eq_true] at h; rw [sameVR_eq _ _ h.1, sameSK_eq _ _ h.2]
  | arr => cases b <;> first | (simp [sameV] at h; done) | skip
           simp only [sameV, Bool.and_eq_true] at h
           obtain ⟨⟨⟨⟨h1, h2⟩, h3⟩, h4⟩, h5⟩ := h
           rw [beq_eq h1, beq_eq h2, beq_eq h3, beq_eq h4, beq_eq h5]
  | ptr => cases b <;> first | (simp [sameV] at h; done) | skip
           simp only [sameV, Bool.and_eq_true] at h; rw [beq_eq h.1, beq_eq h.2]
  | ref r => cases b <;> first | (simp [sameV] at h; done) | skip
             simp only [sameV] at h; rw [sameVs_eq _ _ h]
  | loc => cases b <;> first | (simp [sameV] at h; done) | skip
           simp only [sameV, Bool.and_eq_true] at h; rw [beq_eq h.1.1, beq_eq h.1.2, beq_eq h.2]
  | map => cases b <;> first | (simp [sameV] at h; done) | skip
           simp only [sameV] at h; rw [beq_eq h]
  | fn f cs => cases f <;> cases b <;> first | (simp [sameV] at h; done) | skip
               rename_i f g cs'
               cases g <;> first | (simp [sameV] at h; done) | skip
               simp only [sameV, Bool.and_eq_true] at h; rw [beq_eq h.1, sameVs_eq _ _ h.2]
  | agg r => cases b <;> first | (simp [sameV] at h; done) | skip
             simp only [sameV] at h; rw [sameVs_eq _ _ h]
  | tup r => cases b <;> first | (simp [sameV] at h; done) | skip
             simp only [sameV] at h; rw [sameVs_eq _ _ h]
  | undef => cases b <;> first | rfl | (simp [sameV] at h; done)
theorem sameVs_eq : ∀ (a b : List V), sameVs a b = true → a = b := by
  intro a b h
  cases a <;> cases b <;> first | rfl | (simp [sameVs] at h; done) | skip
  rename_i x l y m
  simp [sameVs] at h
  rw [sameV_eq x y h.1, sameVs_eq l m h.2]
theorem sameVR_eq : ∀ (a b : List (List V)), sameVR a b = true → a = b := by
  intro a b h
  cases a <;> cases b <;> first | rfl | (simp [sameVR] at h; done) | skip
  rename_i x l y m
  simp [sameVR] at h
  rw [sameVs_eq x y h.1, sameVR_eq l m h.2]
end
theorem sameNs_eq : ∀ (a b : List Nat), sameNs a b = true → a = b := by
  intro a
  induction a with
  | nil => intro b h; cases b <;> first | rfl | (simp [sameNs] at h)
  | cons x l ih =>
    intro b h
    cases b with
    | nil => simp [sameNs] at h
    | cons y m => simp only [sameNs, Bool.and_eq_true] at h; rw [beq_eq h.1, ih _ h.2]
theorem sameEs_eq : ∀ (a b : List (PV × V × Nat)), sameEs a b = true → a = b := by
  intro a
  induction a with
  | nil => intro b h; cases b <;> first | rfl | (simp [sameEs] at h)
  | cons x l ih =>
    intro b h
    obtain ⟨a, b', c⟩ := x
    cases b with
    | nil => simp [sameEs] at h
    | cons y m =>
      obtain ⟨d, e, f⟩ := y
      simp only [sameEs, Bool.and_eq_true] at h
      rw [PV.same_eq _ _ h.1.1.1, sameV_eq _ _ h.1.1.2, beq_eq h.1.2, ih _ h.2]
theorem sameOb_eq (a b : Ob) (h : sameOb a b = true) : a = b := by
  cases a <;> cases b <;> first | rfl | (simp [sameOb] at h; done) | skip
  · simp only [sameOb] at h; rw [sameVs_eq _ _ h]
  · simp only [sameOb, Bool.and_eq_true] at h; rw [sameEs_eq _ _ h.1, beq_eq h.2]
  · rename_i o _ _ _ o' _ _ _
    simp only [sameOb, Bool.and_eq_true] at h
    have : o = o' := by
      cases o <;> cases o' <;> first | rfl | (simp [sameON] at h; done) | skip
      simp only [sameON] at h; rw [beq_eq h.1.1.1]
    rw [this, beq_eq h.1.1.2, sameNs_eq _ _ h.1.2, beq_eq h.2]
theorem sameObs_eq : ∀ (a b : List Ob), sameObs a b = true → a = b := by
  intro a
  induction a with
  | nil => intro b h; cases b <;> first | rfl | (simp [sameObs] at h)
  | cons x l ih =>
    intro b h
    cases b with
    | nil => simp [sameObs] at h
    | cons y m => simp only [sameObs, Bool.and_eq_true] at h; rw [sameOb_eq _ _ h.1, ih _ h.2]
theorem sameG_eq (a b : G) (h : sameG a b = true) : a = b := by
  cases a; cases b
  simp only [sameG, Bool.and_eq_true] at h
  rw [sameObs_eq _ _ h.1.1.1, sameNs_eq _ _ h.1.1.2, beq_eq h.1.2, beq_eq h.2]
theorem sameTr_eq : ∀ (a b : Tr), sameTr a b = true → a = b := by
  intro a
  induction a with
  | nil => intro b h; cases b <;> first | rfl | (simp [sameTr] at h)
  | node v l r ih1 ih2 =>
    intro b h
    cases b with
    | nil => simp [sameTr] at h
    | node v' l' r' => simp only [sameTr, Bool.and_eq_true] at h; rw [sameV_eq _ _ h.1.1, ih1 _ h.1.2, ih2 _ h.2]
theorem sameRg_eq : ∀ (a b : List (Nat × (Nat × List V))), sameRg a b = true → a = b := by
  intro a
  induction a with
  | nil => intro b h; cases b <;> first | rfl | (simp [sameRg] at h)
  | cons x l ih =>
    intro b h
    obtain ⟨a, b', c⟩ := x
    cases b with
    | nil => simp [sameRg] at h
    | cons y m =>
      obtain ⟨d, e, f⟩ := y
      simp only [sameRg, Bool.and_eq_true] at h
      rw [beq_eq h.1.1.1, beq_eq h.1.1.2, sameVs_eq _ _ h.1.2, ih _ h.2]
theorem sameFr_eq (a b : Fr) (h : sameFr a b = true) : a = b := by
  cases a; cases b
  simp only [sameFr, Bool.and_eq_true] at h
  rw [sameTr_eq _ _ h.1.1, sameRg_eq _ _ h.1.2, sameG_eq _ _ h.2]
theorem mergeFr_mem : ∀ (a b : List Fr) (x : Fr), x ∈ a ∨ x ∈ b → x ∈ mergeFr a b := by
  intro a
  induction a with
  | nil => intro b x h; rcases h with h | h; cases h; exact h
  | cons y l ih =>
    intro b x h
    unfold mergeFr
    cases hb : b.any (sameFr y) with
    | true =>
      simp only [cond_true]
      obtain ⟨z, hz, he⟩ := List.any_eq_true.1 hb
      have := sameFr_eq _ _ he
      subst this
      rcases h with h | h
      · rcases List.mem_cons.1 h with rfl | h
        · exact ih b x (Or.inr hz)
        · exact ih b x (Or.inl h)
      · exact ih b x (Or.inr h)
    | false =>
      simp only [cond_false]
      rcases h with h | h
      · rcases List.mem_cons.1 h with rfl | h
        · simp
        · exact List.mem_cons_of_mem _ (ih b x (Or.inl h))
      · exact List.mem_cons_of_mem _ (ih b x (Or.inr h))
theorem addOne_mem {l : List (List V)} {v x : List V} (h : x = v ∨ x ∈ l) : x ∈ addOne l v := by
  unfold addOne
  split
  · rename_i hany
    obtain ⟨y, hy, he⟩ := List.any_eq_true.1 hany
    rcases h with rfl | h
    · rw [samePL_eq _ _ he]; exact hy
    · exact h
  · rcases h with rfl | h
    · simp
    · exact List.mem_cons_of_mem _ h
theorem bindO_mem {α β : Type} {f : α → Option (List β)} : ∀ {l : List α} {r : List β}, bindO l f = some r → ∀ a, a ∈ l → ∃ ra, f a = some ra ∧ ∀ b, b ∈ ra → b ∈ r := by
  intro l
  induction l with
  | nil => intro r _ a ha; cases ha
  | cons x l ih =>
    intro r h a ha
    cases l with
    | nil =>
      rcases List.mem_cons.1 ha with rfl | ha
      · exact ⟨r, h, fun _ hb => hb⟩
      · cases ha
    | cons y l =>
      simp only [bindO] at h
      cases hx : f x with
      | none => rw [hx] at h; cases h
      | some rx =>
        rw [hx] at h
        simp only at h
        cases hl : bindO (y :: l) f with
        | none => rw [hl] at h; cases h
        | some rl =>
          rw [hl] at h
          cases h
          rcases List.mem_cons.1 ha with rfl | ha
          · exact ⟨rx, hx, fun b hb => List.mem_append_left _ hb⟩
          · obtain ⟨ra, h1, h2⟩ := ih hl a ha
            exact ⟨ra, h1, fun b hb => List.mem_append_right _ (h2 b hb)⟩
end Go.Vm
