/- Part 6 of the texts that the claim leans on: a judgement on the program over plain values, its soundness, and contracts of functions. -/
import Derived.Test.YtmknnanbmkmnjaaGreatDoorV5
set_option linter.unusedVariables false
set_option linter.unusedSimpArgs false
namespace Go.Vm
open Go
def addrOk (E : Env) (s : St) (a b : Oper) : Bool :=
  a.op.operands.toList.all fun x => match s.ev E x with
    | some (.loc t _ _) => b.dst != some t
    | _ => true
def St.bare (s : St) : St := { s with g := { s.g with objs := [] } }
def localOk (E : Env) (ops : Array Oper) (s : St) (a : Oper) : Bool :=
  match wants ops s a with
  | some true => (stepV E s.bare a).isSome
  | _ => true
def pairOk (E : Env) (cl : Nat → Bool) (ops : Array Oper) (s : St) (i k : Nat) (a b : Oper) : Bool :=
  a.apart ops b && match clOf s.esc a, clOf s.esc b with
  | .q, _ => true
  | _, .q => true
  | .r, .r => true
  | .r, .c => cl k || localOk E ops s a
  | .r, .l => addrOk E s a b
  | .r, .n => addrOk E s a b
  | .c, .r => cl i
  | .c, .c => cl i && cl k
  | .c, .l => cl i && match b.dst with
    | some d => !s.esc d
    | none => false
  | .l, .n => near s.esc a
  | .l, .l => near s.esc a || near s.esc b
  | .l, .c => near s.esc a
  | .n, .l => near s.esc b
  | _, _ => false
section
variable {E : Env} {cl : Nat → Bool} {ops : Array Oper}
theorem Do.mem {k : Nat} {s s1 : St} {b : Oper} (ho : ops[k]? = some b) (h : Do E cl ops k s s1)
    (hc : clOf s.esc b = .q ∨ clOf s.esc b = .r ∨ (clOf s.esc b = .c ∧ cl k = true) ∨ clOf s.esc b = .l ∨ clOf s.esc b = .n) :
    (∀ (id : Nat) ob, s.g.objs[id]? = some ob → s1.g.objs[id]? = some ob) ∧ (∀ t, b.dst ≠ some t → s1.rg t = s.rg t) ∧
    (clOf s.esc b = .q ∨ clOf s.esc b = .r ∨ clOf s.esc b = .c ∨ (clOf s.esc b = .l ∧ ∀ d, b.dst = some d → s.esc d = false) → s1.g = s.g) := by
  have same : (clOf s.esc b = .q ∨ clOf s.esc b = .r ∨ clOf s.esc b = .c ∧ cl k = true) → s1.g = s.g ∧ s1.rg = s.rg := by
    intro hq
    obtain ⟨v, _, hp⟩ := h.quiet ho hq
    rcases put_tm hp with ⟨_, rfl⟩ | ⟨d, _, rfl, _⟩ <;> exact ⟨rfl, rfl⟩
  have one : (clOf s.esc b = .l ∨ clOf s.esc b = .n) → (∀ (id : Nat) ob, s.g.objs[id]? = some ob → s1.g.objs[id]? = some ob) ∧ (∀ t, b.dst ≠ some t → s1.rg t = s.rg t) ∧
      (clOf s.esc b = .l → (∀ d, b.dst = some d → s.esc d = false) → s1.g = s.g) := by
    intro hq
    cases h with
    | skip a _ c =>
      rw [ho] at a; cases a
      rcases put_tm c with ⟨_, rfl⟩ | ⟨d, _, rfl, _⟩ <;> exact ⟨fun _ _ h => h, fun _ _ => rfl, fun _ _ => rfl⟩
    | step a _ c p =>
      rw [ho] at a; cases a
      have := stepV_ln hq c
      rcases put_tm p with ⟨_, rfl⟩ | ⟨d, _, rfl, _⟩ <;> exact this
    | call a _ c _ _ _ =>
      rw [ho] at a; cases a
      exfalso
      obtain ⟨dst, op, type, pos, after, guard⟩ := b
      cases op with
      | call c' =>
        obtain ⟨callee, args, argTypes⟩ := c'
        cases callee with
        | value f => simp [clOf, clOp] at hq
        | _ => simp [callOf] at c
      | _ => simp [callOf] at c
  have hsame : ∀ hq : (clOf s.esc b = .q ∨ clOf s.esc b = .r ∨ clOf s.esc b = .c ∧ cl k = true), _ := fun hq => And.intro (fun (id : Nat) ob (h : s.g.objs[id]? = some ob) => show s1.g.objs[id]? = some ob by rw [(same hq).1]; exact h)
    (And.intro (fun t (_ : b.dst ≠ some t) => show s1.rg t = s.rg t by rw [(same hq).2]) (fun (_ : clOf s.esc b = .q ∨ clOf s.esc b = .r ∨ clOf s.esc b = .c ∨ (clOf s.esc b = .l ∧ ∀ d, b.dst = some d → s.esc d = false)) => (same hq).1))
  rcases hc with hc | hc | hc | hc | hc
  · exact hsame (Or.inl hc)
  · exact hsame (Or.inr (Or.inl hc))
  · exact hsame (Or.inr (Or.inr hc))
  · refine ⟨(one (Or.inl hc)).1, (one (Or.inl hc)).2.1, fun hh => ?_⟩
    rw [hc] at hh
    rcases hh with hh | hh | hh | ⟨_, hh⟩
    · cases hh
    · cases hh
    · cases hh
    · exact (one (Or.inl hc)).2.2 hc hh
  · refine ⟨(one (Or.inr hc)).1, (one (Or.inr hc)).2.1, fun hh => ?_⟩
    rw [hc] at hh
    rcases hh with hh | hh | hh | ⟨hh, _⟩ <;> cases hh
theorem swapA {i k : Nat} {s s' s'' : St} {a b : Oper} (ha : ops[i]? = some a) (hb : ops[k]? = some b) (hap : a.apart ops b = true) (h1 : Do E cl ops i s s') (h2 : Do E cl ops k s' s'')
    (hq : clOf s.esc a = .q ∨ clOf s.esc a = .r ∨ clOf s.esc a = .c ∧ cl i = true)
    (hm : ∀ s1, Do E cl ops k s s1 → clOf s.esc a = .q ∨ (clOf s.esc a = .r ∧ (∀ (id : Nat) ob, s.g.objs[id]? = some ob → s1.g.objs[id]? = some ob) ∧
      (∀ t g off, ∀ x ∈ a.op.operands.toList, s.ev E x = some (.loc t g off) → s1.rg t = s.rg t)) ∨ (clOf s.esc a = .c ∧ s1.g = s.g)) :
    ∃ s1, Do E cl ops k s s1 ∧ Do E cl ops i s1 s'' := by
  obtain ⟨p1, p2, p3⟩ := Oper.apart_spec hap
  obtain ⟨v, hv, hp⟩ := h1.quiet ha hq
  have fin : ∀ s1, Do E cl ops k s s1 → Qt E ops i s1 v := by
    intro s1 hk
    have ht := hk.tm hb
    exact hv.agree ha (fun d hd => ht.1 d fun e => p3 d e hd) ht.2.1 ht.2.2 (hm s1 hk)
  rcases put_tm hp with ⟨hd, rfl⟩ | ⟨d, hd, rfl, hlt⟩
  · exact ⟨s'', h2, (fin s'' h2).to ha (by unfold St.put; rw [hd])⟩
  · obtain ⟨s1, hk, rfl⟩ := h2.unsetT hb (p1 d hd) (p2 d hd)
    refine ⟨s1, hk, (fin s1 hk).to ha ?_⟩
    have := (hk.tm hb).2.1
    unfold St.put
    rw [hd]
    simp only
    rw [if_pos (by rw [this]; exact hlt)]
    rfl
theorem swapB {i k : Nat} {s s' s'' : St} {a b : Oper} (ha : ops[i]? = some a) (hb : ops[k]? = some b) (hap : a.apart ops b = true) (h1 : Do E cl ops i s s') (h2 : Do E cl ops k s' s'')
    (hq : clOf s.esc b = .q) : ∃ s1, Do E cl ops k s s1 ∧ Do E cl ops i s1 s'' := by
  obtain ⟨p1, p2, p3⟩ := Oper.apart_spec hap
  have ht := h1.tm ha
  have hq' : clOf s'.esc b = .q := by rw [ht.2.2]; exact hq
  obtain ⟨v, hv, hp⟩ := h2.quiet hb (Or.inl hq')
  have hv' : Qt E ops k s v := hv.agree hb (fun d hd => ((ht.1 d fun e => p1 d e hd)).symm) ht.2.1.symm ht.2.2.symm (Or.inl hq')
  rcases put_tm hp with ⟨hd, rfl⟩ | ⟨d, hd, rfl, hlt⟩
  · exact ⟨s, hv'.to hb (by unfold St.put; rw [hd]), h1⟩
  · refine ⟨s.setT d v, hv'.to hb ?_, h1.setT ha (p3 d hd) fun e => p2 d e hd⟩
    unfold St.put
    rw [hd]
    simp only
    rw [if_pos (by rw [← ht.2.1]; exact hlt)]
    rfl
theorem callOf_setR {s : St} {d : Nat} {u : Option (Nat × List V)} {o : Oper} : callOf E (s.setR d u) o = callOf E s o := by
  obtain ⟨dst, op, type, pos, after, guard⟩ := o
  cases op with
  | call c =>
    obtain ⟨callee, args, argTypes⟩ := c
    cases callee with
    | value f => simp only [callOf, ev_setR, evL_setR]
    | _ => rfl
  | _ => rfl
theorem Do.setR {k : Nat} {s s1 : St} {d : Nat} {u : Option (Nat × List V)} {o : Oper} (ho : ops[k]? = some o) (hc : clOf s.esc o = .n ∨ clOf s.esc o = .l ∨ clOf s.esc o = .c) (hd : o.dst ≠ some d) (h : Do E cl ops k s s1) :
    Do E cl ops k (s.setR d u) (s1.setR d u) := by
  cases h with
  | skip a b c =>
    rw [ho] at a; cases a
    exact .skip ho b (by rw [put_setR, c]; rfl)
  | step a b c p =>
    rw [ho] at a; cases a
    have hc' : clOf s.esc o = .n ∨ clOf s.esc o = .l := by
      rcases hc with hc | hc | hc
      · exact Or.inl hc
      · exact Or.inr hc
      · exact absurd c (no_call_step hc)
    exact .step ho b (by rw [stepV_setR hc' hd, c]; rfl) (by rw [put_setR, p]; rfl)
  | @call o f args v g s s' a b c e hcl p =>
    rw [ho] at a; cases a
    refine .call ho b (by rw [callOf_setR]; exact c) e hcl ?_
    have : ({ (s.setR d u) with g := g } : St) = ({ s with g := g } : St).setR d u := rfl
    rw [this, put_setR, p]; rfl
theorem Do.unsetR {k : Nat} {s s2 : St} {d : Nat} {u : Option (Nat × List V)} {o : Oper} (ho : ops[k]? = some o) (hc : clOf s.esc o = .n ∨ clOf s.esc o = .l ∨ clOf s.esc o = .c) (hd : o.dst ≠ some d) (h : Do E cl ops k (s.setR d u) s2) :
    ∃ s1, Do E cl ops k s s1 ∧ s2 = s1.setR d u := by
  generalize hs : s.setR d u = s0 at h
  cases h with
  | skip a b c =>
    subst hs
    rw [ho] at a; cases a
    rw [put_setR] at c
    obtain ⟨s1, h1, h2⟩ := Option.map_eq_some_iff.1 c
    exact ⟨s1, .skip ho b h1, h2.symm⟩
  | step a b c p =>
    subst hs
    rw [ho] at a; cases a
    have hc' : clOf s.esc o = .n ∨ clOf s.esc o = .l := by
      rcases hc with hc | hc | hc
      · exact Or.inl hc
      · exact Or.inr hc
      · exact absurd c (no_call_step hc)
    rw [stepV_setR hc' hd] at c
    obtain ⟨⟨v', s1⟩, h1, h2⟩ := Option.map_eq_some_iff.1 c
    simp only [aftR, Prod.mk.injEq] at h2
    obtain ⟨rfl, rfl⟩ := h2
    rw [put_setR] at p
    obtain ⟨s3, h3, h4⟩ := Option.map_eq_some_iff.1 p
    exact ⟨s3, .step ho b h1 h3, h4.symm⟩
  | @call o f args v g s0 s' a b c e hcl p =>
    subst hs
    rw [ho] at a; cases a
    rw [callOf_setR] at c
    have : ({ (s.setR d u) with g := g } : St) = ({ s with g := g } : St).setR d u := rfl
    rw [this, put_setR] at p
    obtain ⟨s3, h3, h4⟩ := Option.map_eq_some_iff.1 p
    exact ⟨s3, .call ho b c e hcl h3, h4.symm⟩
theorem Do.rgs {k : Nat} {s s1 : St} {o : Oper} (ho : ops[k]? = some o) (hc : clOf s.esc o = .n ∨ clOf s.esc o = .l ∨ clOf s.esc o = .c) (h : Do E cl ops k s s1) : ∀ t, o.dst ≠ some t → s1.rg t = s.rg t := by
  have pt : ∀ {a b : St} {v : V}, a.put o.dst v = some b → b.rg = a.rg := by
    intro a b v h
    rcases put_tm h with ⟨_, rfl⟩ | ⟨d, _, rfl, _⟩ <;> rfl
  intro t ht
  cases h with
  | skip a b c => rw [ho] at a; cases a; rw [pt c]
  | step a b c p =>
    rw [ho] at a; cases a
    have hc' : clOf s.esc o = .l ∨ clOf s.esc o = .n := by
      rcases hc with hc | hc | hc
      · exact Or.inr hc
      · exact Or.inl hc
      · exact absurd c (no_call_step hc)
    rw [pt p, (stepV_ln hc' c).2.1 t ht]
  | call a b c e hcl p => rw [ho] at a; cases a; rw [pt p]
theorem swapSkipA {i k : Nat} {s s' s'' : St} {a b : Oper} (ha : ops[i]? = some a) (hb : ops[k]? = some b) (hap : a.apart ops b = true) (hw : wants ops s a = some false) (hp : s.put a.dst .undef = some s') (h2 : Do E cl ops k s' s'') :
    ∃ s1, Do E cl ops k s s1 ∧ Do E cl ops i s1 s'' := by
  obtain ⟨p1, p2, p3⟩ := Oper.apart_spec hap
  have fin : ∀ s1, Do E cl ops k s s1 → wants ops s1 a = some false := by
    intro s1 hk
    have ht := hk.tm hb
    rw [wants_agree (fun d hd => ht.1 d fun e => p3 d e hd) ht.2.1]; exact hw
  rcases put_tm hp with ⟨hd, rfl⟩ | ⟨d, hd, rfl, hlt⟩
  · exact ⟨s'', h2, .skip ha (fin s'' h2) (by unfold St.put; rw [hd])⟩
  · obtain ⟨s1, hk, rfl⟩ := h2.unsetT hb (p1 d hd) (p2 d hd)
    refine ⟨s1, hk, .skip ha (fin s1 hk) ?_⟩
    have := (hk.tm hb).2.1
    unfold St.put
    rw [hd]
    simp only
    rw [if_pos (by rw [this]; exact hlt)]
    rfl
theorem swapSkipB {i k : Nat} {s s' s'' : St} {a b : Oper} (ha : ops[i]? = some a) (hb : ops[k]? = some b) (hap : a.apart ops b = true) (h1 : Do E cl ops i s s') (hw : wants ops s' b = some false) (hp : s'.put b.dst .undef = some s'') :
    ∃ s1, Do E cl ops k s s1 ∧ Do E cl ops i s1 s'' := by
  obtain ⟨p1, p2, p3⟩ := Oper.apart_spec hap
  have ht := h1.tm ha
  have hw' : wants ops s b = some false := by
    rw [← wants_agree (fun d hd => ht.1 d fun e => p1 d e hd) ht.2.1]; exact hw
  rcases put_tm hp with ⟨hd, rfl⟩ | ⟨d, hd, rfl, hlt⟩
  · exact ⟨s, .skip hb hw' (by unfold St.put; rw [hd]), h1⟩
  · refine ⟨s.setT d .undef, .skip hb hw' ?_, h1.setT ha (p3 d hd) fun e => p2 d e hd⟩
    unfold St.put
    rw [hd]
    simp only
    rw [if_pos (by rw [← ht.2.1]; exact hlt)]
    rfl
theorem put_some {s : St} {t : Nat} {v : V} (h : t < s.nt) : s.put (some t) v = some (s.setT t v) := by
  unfold St.put; simp only [h, if_true]; rfl
theorem swapL {i k : Nat} {s s' s'' : St} {a b : Oper} (ha : ops[i]? = some a) (hb : ops[k]? = some b) (hap : a.apart ops b = true) (h1 : Do E cl ops i s s') (h2 : Do E cl ops k s' s'')
    (hca : clOf s.esc a = .l) (hn : near s.esc a = true) (hcb : clOf s.esc b = .n ∨ clOf s.esc b = .l ∨ clOf s.esc b = .c) : ∃ s1, Do E cl ops k s s1 ∧ Do E cl ops i s1 s'' := by
  cases h1 with
  | skip x hw hp => rw [ha] at x; cases x; exact swapSkipA ha hb hap hw hp h2
  | @step _ v _ s1 _ x hw hst hp =>
    rw [ha] at x; cases x
    obtain ⟨p1, p2, p3⟩ := Oper.apart_spec hap
    obtain ⟨t, cs, hd, rfl, hre⟩ := near_step (E := E) hca hn hst
    rw [hd] at hp
    obtain ⟨_, hd', rfl, hlt⟩ := (put_tm hp).resolve_left fun h => by cases h.1
    cases hd'
    obtain ⟨s2, hk2, rfl⟩ := h2.unsetT hb (p1 t hd) (p2 t hd)
    obtain ⟨s3, hk3, rfl⟩ := hk2.unsetR hb hcb (p2 t hd)
    have ht := hk3.tm hb
    have hrg := hk3.rgs hb hcb t (p2 t hd)
    refine ⟨s3, hk3, .step ha (by rw [wants_agree (fun d hd => ht.1 d fun e => p3 d e hd) ht.2.1]; exact hw) (hre s3 hrg ht.2.2 fun x hx => ev_agree fun d e => ht.1 d fun e' => p3 d e' ?_) ?_⟩
    · subst e
      exact List.mem_append_left _ (List.mem_filterMap.2 ⟨.tmp d, by simpa using hx, rfl⟩)
    · rw [hd, put_some (by show t < s3.nt; rw [ht.2.1]; exact hlt)]
  | call x hw hcl _ _ _ =>
    rw [ha] at x; cases x
    exfalso
    obtain ⟨dst, op, type, pos, after, guard⟩ := a
    cases op with
    | call c' =>
      obtain ⟨callee, args, argTypes⟩ := c'
      cases callee with
      | value f => simp [clOf, clOp] at hca
      | _ => simp [callOf] at hcl
    | _ => simp [callOf] at hcl
theorem swapN {i k : Nat} {s s' s'' : St} {a b : Oper} (ha : ops[i]? = some a) (hb : ops[k]? = some b) (hap : a.apart ops b = true) (h1 : Do E cl ops i s s') (h2 : Do E cl ops k s' s'')
    (hca : clOf s.esc a = .n ∨ clOf s.esc a = .l) (hcb : clOf s.esc b = .l) (hn : near s.esc b = true) : ∃ s1, Do E cl ops k s s1 ∧ Do E cl ops i s1 s'' := by
  have hta := h1.tm ha
  cases h2 with
  | skip x hw hp => rw [hb] at x; cases x; exact swapSkipB ha hb hap h1 hw hp
  | @step _ v _ s1 _ x hw hst hp =>
    rw [hb] at x; cases x
    obtain ⟨p1, p2, p3⟩ := Oper.apart_spec hap
    have hca3 : clOf s.esc a = .n ∨ clOf s.esc a = .l ∨ clOf s.esc a = .c := by rcases hca with h | h <;> simp [h]
    obtain ⟨t, cs, hd, rfl, hre⟩ := near_step (E := E) (s := s') (by rw [hta.2.2]; exact hcb) (by rw [hta.2.2]; exact hn) hst
    have hne : a.dst ≠ some t := fun e => p2 t e hd
    have hrg := h1.rgs ha hca3 t hne
    rw [hd] at hp
    obtain ⟨_, hd', rfl, hlt⟩ := (put_tm hp).resolve_left fun h => by cases h.1
    cases hd'
    have hlt' : t < s.nt := by rw [← hta.2.1]; exact hlt
    refine ⟨_, .step (s' := (s.setR t (some ((match s'.rg t with | some (g, _) => g + 1 | none => 0), cs))).setT t v) hb (by rw [← wants_agree (fun d hd => hta.1 d fun e => p1 d e hd) hta.2.1]; exact hw)
      (hre s hrg.symm hta.2.2.symm fun x hx => (ev_agree fun d e => hta.1 d fun e' => p1 d e' ?_).symm) ?_, ?_⟩
    · subst e
      exact List.mem_append_left _ (List.mem_filterMap.2 ⟨.tmp d, by simpa using hx, rfl⟩)
    · rw [hd]; exact put_some hlt'
    · exact (h1.setR ha hca3 hne).setT ha (p3 t hd) hne
  | call x hw hcl _ _ _ =>
    rw [hb] at x; cases x
    exfalso
    obtain ⟨dst, op, type, pos, after, guard⟩ := b
    cases op with
    | call c' =>
      obtain ⟨callee, args, argTypes⟩ := c'
      cases callee with
      | value f => simp [clOf, clOp] at hcb
      | _ => simp [callOf] at hcl
    | _ => simp [callOf] at hcl
theorem swapLo {i k : Nat} {s s' s'' : St} {a b : Oper} (ha : ops[i]? = some a) (hb : ops[k]? = some b) (hap : a.apart ops b = true) (h1 : Do E cl ops i s s') (h2 : Do E cl ops k s' s'')
    (hca : clOf s.esc a = .r) (hcb : clOf s.esc b = .c) (hlo : localOk E ops s a = true) : ∃ s1, Do E cl ops k s s1 ∧ Do E cl ops i s1 s'' := by
  cases h1 with
  | skip x hw hp => rw [ha] at x; cases x; exact swapSkipA ha hb hap hw hp h2
  | @step _ v _ s1 _ x hw hst hp =>
    rw [ha] at x; cases x
    obtain ⟨p1, p2, p3⟩ := Oper.apart_spec hap
    unfold localOk at hlo
    rw [hw] at hlo
    simp only at hlo
    obtain ⟨⟨v', sb⟩, hsb⟩ := Option.isSome_iff_exists.1 hlo
    have hca' : clOf s.bare.esc a = .r := hca
    obtain ⟨rfl, hgo⟩ := stepV_r hca' hsb
    have any : ∀ s' : St, (∀ x ∈ a.op.operands.toList, s'.ev E x = s.ev E x) → s'.rg = s.rg → stepV E s' a = some (v', s') := by
      intro s' hx hr
      refine hgo s' (fun {x} hh => ?_) (fun id ob hh => by simp [St.bare] at hh) (fun t g off x hh e => by rw [hr]; rfl)
      rw [hx x hh]; cases x <;> rfl
    have hv := any s (fun _ _ => rfl) rfl
    rw [hst] at hv
    simp only [Option.some.injEq, Prod.mk.injEq] at hv
    obtain ⟨rfl, rfl⟩ := hv
    have fin : ∀ s2, Do E cl ops k s1 s2 → Qt E ops i s2 v := by
      intro s2 hk
      have ht := hk.tm hb
      refine .step ha (by rw [wants_agree (fun d hd => ht.1 d fun e => p3 d e hd) ht.2.1]; exact hw) (any s2 (fun x hx => ev_agree fun d e => ht.1 d fun e' => p3 d e' ?_) ?_)
      · subst e
        exact List.mem_append_left _ (List.mem_filterMap.2 ⟨.tmp d, by simpa using hx, rfl⟩)
      · have pt : ∀ {a c : St} {v : V}, a.put b.dst v = some c → c.rg = a.rg := by
          intro a c v h
          rcases put_tm h with ⟨_, rfl⟩ | ⟨d, _, rfl, _⟩ <;> rfl
        cases hk with
        | skip x _ c => rw [hb] at x; cases x; rw [pt c]
        | step x _ c _ => rw [hb] at x; cases x; exact absurd c (no_call_step hcb)
        | call x _ _ _ _ p => rw [hb] at x; cases x; rw [pt p]
    rcases put_tm hp with ⟨hd, rfl⟩ | ⟨d, hd, rfl, hlt⟩
    · exact ⟨s'', h2, (fin s'' h2).to ha (by unfold St.put; rw [hd])⟩
    · obtain ⟨s2, hk, rfl⟩ := h2.unsetT hb (p1 d hd) (p2 d hd)
      refine ⟨s2, hk, (fin s2 hk).to ha ?_⟩
      rw [hd]; exact put_some (by rw [(hk.tm hb).2.1]; exact hlt)
  | call x hw hcl _ _ _ =>
    rw [ha] at x; cases x
    exfalso
    obtain ⟨dst, op, type, pos, after, guard⟩ := a
    cases op with
    | call c' =>
      obtain ⟨callee, args, argTypes⟩ := c'
      cases callee with
      | value f => simp [clOf, clOp] at hca
      | _ => simp [callOf] at hcl
    | _ => simp [callOf] at hcl
theorem swap {i k : Nat} {s s' s'' : St} {a b : Oper} (ha : ops[i]? = some a) (hb : ops[k]? = some b) (h1 : Do E cl ops i s s') (h2 : Do E cl ops k s' s'')
    (hok : pairOk E cl ops s i k a b = true) : ∃ s1, Do E cl ops k s s1 ∧ Do E cl ops i s1 s'' := by
  unfold pairOk at hok
  rw [Bool.and_eq_true] at hok
  obtain ⟨hap, hok⟩ := hok
  have ad : addrOk E s a b = true → ∀ t g off, ∀ x ∈ a.op.operands.toList, s.ev E x = some (.loc t g off) → b.dst ≠ some t := by
    intro h t g off x hx e
    have := List.all_eq_true.1 h x hx
    simp only [e] at this
    simpa using this
  cases hca : clOf s.esc a with
  | q => exact swapA ha hb hap h1 h2 (Or.inl hca) fun _ _ => Or.inl hca
  | r =>
    cases hcb : clOf s.esc b with
    | q => exact swapB ha hb hap h1 h2 hcb
    | r =>
      refine swapA ha hb hap h1 h2 (Or.inr (Or.inl hca)) fun s1 hk => Or.inr (Or.inl ⟨hca, ?_⟩)
      obtain ⟨v, _, hp⟩ := hk.quiet hb (Or.inr (Or.inl hcb))
      rcases put_tm hp with ⟨_, rfl⟩ | ⟨d, _, rfl, _⟩ <;> exact ⟨fun _ _ h => h, fun _ _ _ _ _ _ => rfl⟩
    | c =>
      rw [hca, hcb] at hok
      simp only [Bool.or_eq_true] at hok
      rcases hok with hok | hok
      · refine swapA ha hb hap h1 h2 (Or.inr (Or.inl hca)) fun s1 hk => Or.inr (Or.inl ⟨hca, ?_⟩)
        obtain ⟨v, _, hp⟩ := hk.quiet hb (Or.inr (Or.inr ⟨hcb, hok⟩))
        rcases put_tm hp with ⟨_, rfl⟩ | ⟨d, _, rfl, _⟩ <;> exact ⟨fun _ _ h => h, fun _ _ _ _ _ _ => rfl⟩
      · exact swapLo ha hb hap h1 h2 hca hcb hok
    | l =>
      rw [hca, hcb] at hok
      refine swapA ha hb hap h1 h2 (Or.inr (Or.inl hca)) fun s1 hk => Or.inr (Or.inl ⟨hca, ?_⟩)
      have := hk.mem hb (Or.inr (Or.inr (Or.inr (Or.inl hcb))))
      exact ⟨this.1, fun t g off x hx e => this.2.1 t (ad hok t g off x hx e)⟩
    | n =>
      rw [hca, hcb] at hok
      refine swapA ha hb hap h1 h2 (Or.inr (Or.inl hca)) fun s1 hk => Or.inr (Or.inl ⟨hca, ?_⟩)
      have := hk.mem hb (Or.inr (Or.inr (Or.inr (Or.inr hcb))))
      exact ⟨this.1, fun t g off x hx e => this.2.1 t (ad hok t g off x hx e)⟩
    | w => rw [hca, hcb] at hok; cases hok
  | c =>
    cases hcb : clOf s.esc b with
    | q => exact swapB ha hb hap h1 h2 hcb
    | r =>
      rw [hca, hcb] at hok
      refine swapA ha hb hap h1 h2 (Or.inr (Or.inr ⟨hca, hok⟩)) fun s1 hk => Or.inr (Or.inr ⟨hca, ?_⟩)
      exact (hk.mem hb (Or.inr (Or.inl hcb))).2.2 (Or.inr (Or.inl hcb))
    | c =>
      rw [hca, hcb] at hok
      simp only [Bool.and_eq_true] at hok
      refine swapA ha hb hap h1 h2 (Or.inr (Or.inr ⟨hca, hok.1⟩)) fun s1 hk => Or.inr (Or.inr ⟨hca, ?_⟩)
      exact (hk.mem hb (Or.inr (Or.inr (Or.inl ⟨hcb, hok.2⟩)))).2.2 (Or.inr (Or.inr (Or.inl hcb)))
    | l =>
      rw [hca, hcb] at hok
      simp only [Bool.and_eq_true] at hok
      refine swapA ha hb hap h1 h2 (Or.inr (Or.inr ⟨hca, hok.1⟩)) fun s1 hk => Or.inr (Or.inr ⟨hca, ?_⟩)
      refine (hk.mem hb (Or.inr (Or.inr (Or.inr (Or.inl hcb))))).2.2 (Or.inr (Or.inr (Or.inr ⟨hcb, fun d hd => ?_⟩)))
      have := hok.2
      rw [hd] at this
      simpa using this
    | n => rw [hca, hcb] at hok; cases hok
    | w => rw [hca, hcb] at hok; cases hok
  | l =>
    cases hcb : clOf s.esc b with
    | q => exact swapB ha hb hap h1 h2 hcb
    | n => rw [hca, hcb] at hok; exact swapL ha hb hap h1 h2 hca hok (Or.inl hcb)
    | c => rw [hca, hcb] at hok; exact swapL ha hb hap h1 h2 hca hok (Or.inr (Or.inr hcb))
    | l =>
      rw [hca, hcb] at hok
      simp only [Bool.or_eq_true] at hok
      rcases hok with hok | hok
      · exact swapL ha hb hap h1 h2 hca hok (Or.inr (Or.inl hcb))
      · exact swapN ha hb hap h1 h2 (Or.inr hca) hcb hok
    | _ => rw [hca, hcb] at hok; cases hok
  | n =>
    cases hcb : clOf s.esc b with
    | q => exact swapB ha hb hap h1 h2 hcb
    | l => rw [hca, hcb] at hok; exact swapN ha hb hap h1 h2 (Or.inl hca) hcb hok
    | _ => rw [hca, hcb] at hok; cases hok
  | w =>
    cases hcb : clOf s.esc b with
    | q => exact swapB ha hb hap h1 h2 hcb
    | _ => rw [hca, hcb] at hok; cases hok
end
end Go.Vm
set_option linter.unusedVariables false
set_option linter.unusedSimpArgs false
namespace Go.Vm
open Go
def aheadOf (tab : List Nat) (o : Oper) : Nat :=
  o.after.toList.foldl (fun s e => if Region.binds .any e then s ||| 2 ^ e.on ||| tab.getD e.on 0 else s) 0
def aheadGo (acc : List Nat) : List Oper → List Nat
  | [] => acc
  | o :: l => aheadGo (acc ++ [aheadOf acc o]) l
def aheads (ops : Array Oper) : List Nat := aheadGo [] ops.toList
def tabGo (tab : List Nat) : Nat → List Oper → Bool
  | _, [] => true
  | k, o :: l => tab.getD k 0 == aheadOf tab o && o.after.toList.all (fun e => e.on < k || !Region.binds .any e) && tabGo tab (k + 1) l
def tabOk (ops : Array Oper) (tab : List Nat) : Bool := tabGo tab 0 ops.toList
def safeB (E : Env) (cl : Nat → Bool) (ops : Array Oper) (tab : List Nat) (listed : Array Bool) (s : St) (i : Nat) : Bool :=
  (List.range ops.size).all fun k => listed.getD k true || k == i || (tab.getD k 0).testBit i ||
    match ops[i]?, ops[k]? with
    | some a, some b => pairOk E cl ops s i k a b
    | _, _ => true
section
variable {E : Env} {cl : Nat → Bool} {ops : Array Oper}
theorem foldl_bit {tab : List Nat} {i : Nat} : ∀ (l : List Edge) (s : Nat), (l.foldl (fun s e => if Region.binds .any e then s ||| 2 ^ e.on ||| tab.getD e.on 0 else s) s).testBit i = true →
    s.testBit i = true ∨ ∃ e ∈ l, Region.binds .any e = true ∧ (e.on = i ∨ (tab.getD e.on 0).testBit i = true) := by
  intro l
  induction l with
  | nil => intro s h; exact Or.inl h
  | cons e l ih =>
    intro s h
    rcases ih _ h with h | ⟨e', he, h1, h2⟩
    · simp only [] at h
      split at h
      · rename_i hb
        simp only [Nat.testBit_or, Nat.testBit_two_pow, Bool.or_eq_true, decide_eq_true_eq] at h
        rcases h with (h | h) | h
        · exact Or.inl h
        · exact Or.inr ⟨e, by simp, hb, Or.inl h⟩
        · exact Or.inr ⟨e, by simp, hb, Or.inr h⟩
      · exact Or.inl h
    · exact Or.inr ⟨e', List.mem_cons_of_mem _ he, h1, h2⟩
theorem tabGo_at {tab : List Nat} : ∀ (l : List Oper) (k : Nat), tabGo tab k l = true → ∀ j o, l[j]? = some o →
    tab.getD (k + j) 0 = aheadOf tab o ∧ ∀ e ∈ o.after.toList, Region.binds .any e = true → e.on < k + j := by
  intro l
  induction l with
  | nil => intro k _ j o h; simp at h
  | cons x l ih =>
    intro k h j o hj
    simp only [tabGo, Bool.and_eq_true, beq_iff_eq] at h
    cases j with
    | zero =>
      simp at hj; subst hj
      refine ⟨h.1.1, fun e he hb => ?_⟩
      have := List.all_eq_true.1 h.1.2 e he
      simp only [hb, Bool.not_true, Bool.or_false, decide_eq_true_eq] at this
      simpa using this
    | succ j =>
      simp at hj
      have := ih (k + 1) h.2 j o hj
      rw [show k + 1 + j = k + (j + 1) by omega] at this
      exact this
theorem tab_at {tab : List Nat} (h : tabOk ops tab = true) {k : Nat} {o : Oper} (ho : ops[k]? = some o) :
    tab.getD k 0 = aheadOf tab o ∧ ∀ e ∈ o.after.toList, Region.binds .any e = true → e.on < k := by
  have := tabGo_at _ 0 h k o (by simpa using ho)
  simpa using this
def Down (ops : Array Oper) (listed : Array Bool) : Prop :=
  ∀ k o, ops[k]? = some o → listed.getD k true = true → ∀ e ∈ o.after.toList, Region.binds .any e = true → listed.getD e.on false = true
theorem ready_iff {listed : Array Bool} {i : Nat} : i ∈ Region.ready .any ops listed ↔ ∃ o, ops[i]? = some o ∧ listed.getD i true = false ∧
    ∀ e ∈ o.after.toList, Region.binds .any e = true → listed.getD e.on false = true := by
  unfold Region.ready
  rw [List.mem_filter, List.mem_range]
  constructor
  · rintro ⟨h1, h2⟩
    obtain ⟨o, ho⟩ : ∃ o, ops[i]? = some o := ⟨ops[i], by simp [h1]⟩
    simp only [ho, Option.map_some, Option.getD_some, Bool.and_eq_true, Bool.not_eq_true'] at h2
    refine ⟨o, ho, h2.1, fun e he hb => ?_⟩
    have := h2.2
    rw [← Array.all_toList, List.all_eq_true] at this
    have := this e he
    simpa [hb] using this
  · rintro ⟨o, ho, h1, h2⟩
    refine ⟨(Array.getElem?_eq_some_iff.1 ho).1, ?_⟩
    simp only [ho, Option.map_some, Option.getD_some, Bool.and_eq_true, Bool.not_eq_true']
    refine ⟨h1, ?_⟩
    rw [← Array.all_toList, List.all_eq_true]
    intro e he
    cases hb : Region.binds .any e
    · simp
    · simpa [hb] using h2 e he hb
theorem listed_bit {tab : List Nat} (h : tabOk ops tab = true) {listed : Array Bool} (hsz : listed.size = ops.size) (hd : Down ops listed) {i : Nat} : ∀ k, listed.getD k false = true → (tab.getD k 0).testBit i = true → listed.getD i false = true := by
  intro k
  induction k using Nat.strongRecOn with
  | _ k ih =>
    intro hk hb
    have hlt : k < ops.size := by
      rw [← hsz]
      by_cases hlt : k < listed.size
      · exact hlt
      · simp [Array.getD, hlt] at hk
    have ho : ops[k]? = some ops[k] := by simp [hlt]
    obtain ⟨t1, t2⟩ := tab_at h ho
    rw [t1] at hb
    rcases foldl_bit _ _ hb with hb | ⟨e, he, h1, h2⟩
    · simp at hb
    · have hk' : listed.getD k true = true := by
        rw [← hsz] at hlt
        simp [Array.getD, hlt] at hk ⊢; exact hk
      have hl := hd k _ ho hk' e he h1
      rcases h2 with h2 | h2
      · rw [← h2]; exact hl
      · exact ih e.on (t2 e he h1) hl h2
theorem ready_bit {tab : List Nat} (h : tabOk ops tab = true) {listed : Array Bool} (hsz : listed.size = ops.size) (hd : Down ops listed) {i k : Nat} (hk : k ∈ Region.ready .any ops listed) (hi : listed.getD i true = false) :
    (tab.getD k 0).testBit i = false := by
  cases hb : (tab.getD k 0).testBit i with
  | false => rfl
  | true =>
    exfalso
    obtain ⟨o, ho, h1, h2⟩ := ready_iff.1 hk
    obtain ⟨t1, t2⟩ := tab_at h ho
    rw [t1] at hb
    have : listed.getD i false = true := by
      rcases foldl_bit _ _ hb with hb | ⟨e, he, h3, h4⟩
      · simp at hb
      · rcases h4 with h4 | h4
        · rw [← h4]; exact h2 e he h3
        · exact listed_bit h hsz hd e.on (h2 e he h3) h4
    by_cases hlt : i < listed.size
    · simp [Array.getD, hlt] at this hi; rw [this] at hi; cases hi
    · simp [Array.getD, hlt] at this
theorem localOk_state {s s1 : St} {a : Oper} (hc : clOf s.esc a = .r) (ha : ∀ x ∈ a.op.operands.toList, s1.ev E x = s.ev E x) (hw : wants ops s1 a = wants ops s a)
    (hrg : ∀ t g off, ∀ x ∈ a.op.operands.toList, s.ev E x = some (.loc t g off) → s1.rg t = s.rg t) (h : localOk E ops s a = true) : localOk E ops s1 a = true := by
  unfold localOk at h ⊢
  rw [hw]
  split
  · rename_i hq
    rw [hq] at h
    simp only at h
    obtain ⟨⟨v, sb⟩, hs⟩ := Option.isSome_iff_exists.1 h
    have hc' : clOf s.bare.esc a = .r := hc
    obtain ⟨_, hgo⟩ := stepV_r hc' hs
    have eb : ∀ (z : St) (x : Operand), z.bare.ev E x = z.ev E x := fun z x => by cases x <;> rfl
    rw [hgo s1.bare (fun {x} hh => by rw [eb, eb]; exact ha x hh) (fun id ob hh => by simp [St.bare] at hh) (fun t g off x hh e => hrg t g off x hh (by rw [← eb]; exact e))]
    rfl
  · rfl
theorem pairOk_state {s s1 : St} {i k k' : Nat} {a b b' : Oper} (h : pairOk E cl ops s i k' a b' = true) (ha : ∀ x ∈ a.op.operands.toList, s1.ev E x = s.ev E x) (he : s1.esc = s.esc)
    (hw : wants ops s1 a = wants ops s a) (hrg : clOf s.esc a = .r → ∀ t g off, ∀ x ∈ a.op.operands.toList, s.ev E x = some (.loc t g off) → s1.rg t = s.rg t) :
    pairOk E cl ops s1 i k' a b' = true := by
  have h1 : addrOk E s1 a b' = addrOk E s a b' := by
    unfold addrOk
    rw [Bool.eq_iff_iff, List.all_eq_true, List.all_eq_true]
    exact ⟨fun hh x hx => by rw [← ha x hx]; exact hh x hx, fun hh x hx => by rw [ha x hx]; exact hh x hx⟩
  unfold pairOk at h ⊢
  rw [h1, he]
  cases hca : clOf s.esc a <;> cases hcb : clOf s.esc b' <;> first | (rw [hca, hcb] at h; exact h) | skip
  rw [hca, hcb] at h
  simp only [Bool.and_eq_true, Bool.or_eq_true] at h ⊢
  exact ⟨h.1, h.2.imp id fun h => localOk_state hca ha hw (hrg hca) h⟩
theorem pair_rg {k i : Nat} {s s1 : St} {a b : Oper} (hb : ops[k]? = some b) (h : pairOk E cl ops s i k a b = true) (hca : clOf s.esc a = .r) (hdo : Do E cl ops k s s1) :
    ∀ t g off, ∀ x ∈ a.op.operands.toList, s.ev E x = some (.loc t g off) → s1.rg t = s.rg t := by
  unfold pairOk at h
  rw [Bool.and_eq_true] at h
  intro t g off x hx e
  have quiet : (clOf s.esc b = .q ∨ clOf s.esc b = .r) → s1.rg = s.rg := by
    intro hq
    obtain ⟨v, _, hp⟩ := hdo.quiet hb (hq.imp id Or.inl)
    rcases put_tm hp with ⟨_, rfl⟩ | ⟨d, _, rfl, _⟩ <;> rfl
  have ad : addrOk E s a b = true → b.dst ≠ some t := by
    intro h
    have := List.all_eq_true.1 h x hx
    simp only [e] at this
    simpa using this
  cases hcb : clOf s.esc b with
  | q => rw [quiet (Or.inl hcb)]
  | r => rw [quiet (Or.inr hcb)]
  | c =>
    have pt : ∀ {a c : St} {v : V}, a.put b.dst v = some c → c.rg = a.rg := by
      intro a c v h
      rcases put_tm h with ⟨_, rfl⟩ | ⟨d, _, rfl, _⟩ <;> rfl
    cases hdo with
    | skip x _ c => rw [hb] at x; cases x; rw [pt c]
    | step x _ c _ => rw [hb] at x; cases x; exact absurd c (no_call_step hcb)
    | call x _ _ _ _ p => rw [hb] at x; cases x; rw [pt p]
  | l => rw [hca, hcb] at h; exact hdo.rgs hb (Or.inr (Or.inl hcb)) t (ad h.2)
  | n => rw [hca, hcb] at h; exact hdo.rgs hb (Or.inl hcb) t (ad h.2)
  | w => rw [hca, hcb] at h; cases h.2
def AnyD (E : Env) (cl : Nat → Bool) (ops : Array Oper) (Q : St → Prop) : Nat → Array Bool → St → Prop
  | 0, listed, s => Region.ready .any ops listed = [] ∧ Q s
  | n + 1, listed, s => (Region.ready .any ops listed = [] → Q s) ∧
      ∀ i ∈ Region.ready .any ops listed, ∃ s', Do E cl ops i s s' ∧ AnyD E cl ops Q n (listed.setIfInBounds i true) s'
theorem AnyD.sound {Q : St → Prop} : ∀ (n t : Nat) (listed : Array Bool) (s : St), AnyD E cl ops Q n listed s →
    Ev E (.ops ops (Region.linearise.go .any ops n t listed []) s Q) := by
  intro n
  induction n with
  | zero => intro t listed s h; exact .nil h.2
  | succ n ih =>
    intro t listed s h
    obtain ⟨h₀, h₁⟩ := h
    simp only [Region.linearise.go]
    change Ev E (.ops ops (match (Region.ready .any ops listed)[t % (Region.ready .any ops listed).length]? with
      | some i => Region.linearise.go .any ops n (t / (Region.ready .any ops listed).length) (listed.setIfInBounds i true) [i]
      | none => [].reverse) s Q)
    cases hi : (Region.ready .any ops listed)[t % (Region.ready .any ops listed).length]? with
    | none =>
      have hnil : Region.ready .any ops listed = [] := by
        cases hr : Region.ready .any ops listed with
        | nil => rfl
        | cons x xs =>
          rw [hr] at hi
          have hlt : t % (x :: xs).length < (x :: xs).length := Nat.mod_lt _ (by simp)
          simp at hi
          simp at hlt
          omega
      exact .nil (h₀ hnil)
    | some i =>
      simp only []
      rw [linearise_go_acc, List.reverse_singleton, List.singleton_append]
      obtain ⟨s', hd, hr⟩ := h₁ i (List.mem_of_getElem? hi)
      exact hd.ev (ih _ _ _ hr)
theorem getD_set {l : Array Bool} {i k : Nat} {d : Bool} (hi : i < l.size) : (l.setIfInBounds i true).getD k d = if k = i then true else l.getD k d := by
  by_cases hk : k < l.size
  · simp [Array.getD, hk, Array.getElem_setIfInBounds]
    by_cases e : i = k
    · subst e; simp
    · have : ¬ k = i := fun h => e h.symm
      simp [e, this]
  · have : ¬ k = i := by omega
    simp [Array.getD, hk, this]
theorem ready_lt {listed : Array Bool} {i : Nat} (h : i ∈ Region.ready .any ops listed) : i < ops.size := by
  obtain ⟨o, ho, _⟩ := ready_iff.1 h
  exact (Array.getElem?_eq_some_iff.1 ho).1
theorem Down.set {listed : Array Bool} {i : Nat} (hsz : listed.size = ops.size) (hd : Down ops listed) (h : i ∈ Region.ready .any ops listed) : Down ops (listed.setIfInBounds i true) := by
  have hi := ready_lt h
  obtain ⟨o, ho, h1, h2⟩ := ready_iff.1 h
  intro k o' ho' hk e he hb
  rw [getD_set (by rw [hsz]; exact hi)] at hk ⊢
  split
  · rfl
  · by_cases hki : k = i
    · subst hki
      rw [ho] at ho'; cases ho'
      exact h2 e he hb
    · rw [if_neg hki] at hk
      exact hd k o' ho' hk e he hb
theorem ready_set {listed : Array Bool} {i k : Nat} (hsz : listed.size = ops.size) (hi : i < ops.size) (h : k ∈ Region.ready .any ops listed) (hne : k ≠ i) : k ∈ Region.ready .any ops (listed.setIfInBounds i true) := by
  obtain ⟨o, ho, h1, h2⟩ := ready_iff.1 h
  refine ready_iff.2 ⟨o, ho, by rw [getD_set (by rw [hsz]; exact hi), if_neg hne]; exact h1, fun e he hb => ?_⟩
  rw [getD_set (by rw [hsz]; exact hi)]
  split
  · rfl
  · exact h2 e he hb
theorem AnyD.front {tab : List Nat} (ht : tabOk ops tab = true) {Q : St → Prop} {i : Nat} {a : Oper} (ha : ops[i]? = some a) : ∀ (n : Nat) (listed : Array Bool) (s s' : St),
    listed.size = ops.size → Down ops listed → i ∈ Region.ready .any ops listed →
    (∀ k b, ops[k]? = some b → listed.getD k true = false → k ≠ i → (tab.getD k 0).testBit i = false → pairOk E cl ops s i k a b = true) →
    Do E cl ops i s s' → AnyD E cl ops Q n (listed.setIfInBounds i true) s' → AnyD E cl ops Q (n + 1) listed s := by
  intro n
  induction n with
  | zero =>
    intro listed s s' hsz hd hi hs hdo hA
    refine ⟨fun e => (by rw [e] at hi; cases hi), fun k hk => ?_⟩
    by_cases hki : k = i
    · subst hki; exact ⟨s', hdo, hA⟩
    · have := ready_set hsz (ready_lt hi) hk hki
      rw [hA.1] at this; cases this
  | succ n ih =>
    intro listed s s' hsz hd hi hs hdo hA
    refine ⟨fun e => (by rw [e] at hi; cases hi), fun k hk => ?_⟩
    by_cases hki : k = i
    · subst hki; exact ⟨s', hdo, hA⟩
    · have hk' := ready_set hsz (ready_lt hi) hk hki
      obtain ⟨s'', hdk, hA'⟩ := hA.2 k hk'
      obtain ⟨b, hb, hb1, hb2⟩ := ready_iff.1 hk
      obtain ⟨a', ha', hi1, hi2⟩ := ready_iff.1 hi
      rw [ha] at ha'; cases ha'
      have hbit := ready_bit ht hsz hd hk hi1
      have hp := hs k b hb hb1 hki hbit
      obtain ⟨s1, q1, q2⟩ := swap ha hb hdo hdk hp
      refine ⟨s1, q1, ih (listed.setIfInBounds k true) s1 s'' (by simp [hsz]) (hd.set hsz hk) (ready_set hsz (ready_lt hk) hi (fun e => hki e.symm)) ?_ q2 ?_⟩
      · intro k' b' hb' hk1 hk2 hk3
        rw [getD_set (by rw [hsz]; exact ready_lt hk)] at hk1
        have hne : ¬ k' = k := by intro e; rw [if_pos e] at hk1; cases hk1
        rw [if_neg hne] at hk1
        have hap : a.apart ops b = true := by unfold pairOk at hp; rw [Bool.and_eq_true] at hp; exact hp.1
        obtain ⟨_, _, p3⟩ := Oper.apart_spec hap
        have htm := q1.tm hb
        refine pairOk_state (k := k) (b := b) (hs k' b' hb' hk1 hk2 hk3) (fun x hx => ev_agree fun d e => htm.1 d fun e' => p3 d e' ?_) htm.2.2 (wants_agree (fun d hd => htm.1 d fun e => p3 d e hd) htm.2.1) (fun hca => pair_rg hb hp hca q1)
        subst e
        exact List.mem_append_left _ (List.mem_filterMap.2 ⟨.tmp d, by simpa using hx, rfl⟩)
      · rw [Array.setIfInBounds_comm _ _ hki]
        exact hA'
inductive EvD (E : Env) (cl : Nat → Bool) (ops : Array Oper) (tab : List Nat) (Q : St → Prop) : Nat → Array Bool → St → Prop where
  | done {n listed s} : Region.ready .any ops listed = [] → Q s → EvD E cl ops tab Q n listed s
  | first {n listed s} (i : Nat) (s' : St) : i ∈ Region.ready .any ops listed → safeB E cl ops tab listed s i = true → Do E cl ops i s s' →
      EvD E cl ops tab Q n (listed.setIfInBounds i true) s' → EvD E cl ops tab Q (n + 1) listed s
  | all {n listed s} (f : Nat → St) : (∀ i ∈ Region.ready .any ops listed, Do E cl ops i s (f i)) →
      (∀ i ∈ Region.ready .any ops listed, EvD E cl ops tab Q n (listed.setIfInBounds i true) (f i)) → (Region.ready .any ops listed = [] → Q s) → EvD E cl ops tab Q (n + 1) listed s
theorem EvD.any {tab : List Nat} (ht : tabOk ops tab = true) {Q : St → Prop} {n : Nat} {listed : Array Bool} {s : St} (h : EvD E cl ops tab Q n listed s) :
    listed.size = ops.size → Down ops listed → AnyD E cl ops Q n listed s := by
  induction h with
  | @done n listed s h1 h2 =>
    intro _ _
    cases n with
    | zero => exact ⟨h1, h2⟩
    | succ n => exact ⟨fun _ => h2, fun i hi => by rw [h1] at hi; cases hi⟩
  | @first n listed s i s' hi hs hd _ ih =>
    intro hsz hdn
    obtain ⟨a, ha, hi1, hi2⟩ := ready_iff.1 hi
    refine AnyD.front ht ha n listed s s' hsz hdn hi (fun k b hb h1 h2 h3 => ?_) hd (ih (by simp [hsz]) (hdn.set hsz hi))
    have := List.all_eq_true.1 hs k (List.mem_range.2 (Array.getElem?_eq_some_iff.1 hb).1)
    simp only [h1, h3, ha, hb, Bool.false_or, Bool.or_eq_true, beq_iff_eq] at this
    rcases this with this | this
    · rcases this with this | this
      · exact absurd this h2
      · cases this
    · exact this
  | all f hd _ hq ih =>
    intro hsz hdn
    exact ⟨hq, fun i hi => ⟨f i, hd i hi, ih i hi (by simp [hsz]) (hdn.set hsz hi)⟩⟩
theorem Ev.drawn {id : Nat} {s : St} {Q : X → St → Prop} {tab : List Nat} (hm : E.P.follows .mixedOrders = true) (ht : tabOk ops tab = true)
    (h : EvD E cl ops tab (Q .normal) ops.size (Array.replicate ops.size false) s) : Ev E (.code (.region id ops true) s Q) := by
  refine .regionD fun t => ?_
  simp only [Region.schedule, hm, Bool.true_or, if_true]
  refine AnyD.sound _ _ _ _ (h.any ht (by simp) fun k o ho hk => ?_)
  have hlt := (Array.getElem?_eq_some_iff.1 ho).1
  simp [Array.getD, hlt] at hk
end
end Go.Vm
set_option linter.unusedVariables false
namespace Go.Vm
open Go
def PrimMono (E : Env) : Prop := ∀ f args g (Q Q' : V → G → Prop), (∀ v g', Q v g' → Q' v g') → E.prim f args g Q → E.prim f args g Q'
def Weak (E : Env) : J → Prop
  | .code c s Q => ∀ Q', (∀ e s', Q e s' → Q' e s') → Ev E (.code c s Q')
  | .ops ops l s Q => ∀ Q', (∀ s', Q s' → Q' s') → Ev E (.ops ops l s Q')
  | .call f args g Q => ∀ Q', (∀ v g', Q v g' → Q' v g') → Ev E (.call f args g Q')
theorem Ev.weak {E : Env} (hp : PrimMono E) {j : J} (h : Ev E j) : Weak E j := by
  induction h with
  | skip hq => exact fun Q' hw => .skip (hw _ _ hq)
  | ret hq => exact fun Q' hw => .ret (hw _ _ hq)
  | exit hq => exact fun Q' hw => .exit (hw _ _ hq)
  | seq Q1 h1 h2 h3 _ ih2 => exact fun Q' hw => .seq Q1 h1 (fun s' hs => ih2 s' hs Q' hw) (fun e s' he hs => hw _ _ (h3 e s' he hs))
  | cond t ht h ih => exact fun Q' hw => .cond t ht (ih Q' hw)
  | block Q1 h1 h2 h3 h4 _ =>
    refine fun Q' hw => .block Q1 h1 (fun s' hs => hw _ _ (h2 s' hs)) (fun id' s' hs => ?_) (fun s' hs => hw _ _ (h4 s' hs))
    have := h3 id' s' hs
    split
    · rename_i hid; rw [if_pos hid] at this; exact hw _ _ this
    · rename_i hid; rw [if_neg hid] at this; exact hw _ _ this
  | loop Q1 h1 h2 h3 _ ih2 => exact fun Q' hw => .loop Q1 h1 (fun s' hs => ih2 s' hs Q' hw) (fun e s' he hs => hw _ _ (h3 e s' he hs))
  | region h ih => exact fun Q' hw => .region (ih _ fun s' hs => hw _ _ hs)
  | regionD h ih => exact fun Q' hw => .regionD fun t => ih t _ fun s' hs => hw _ _ hs
  | nil hq => exact fun Q' hw => .nil (hw _ hq)
  | skipOp a b c _ ih => exact fun Q' hw => .skipOp a b c (ih Q' hw)
  | step a b c d _ ih => exact fun Q' hw => .step a b c d (ih Q' hw)
  | next sf a b c d e f _ ih => exact fun Q' hw => .next sf a b c d e f fun x hx => ih x hx Q' hw
  | callOp Q1 sf a b c d e _ _ ih => exact fun Q' hw => .callOp Q1 sf a b c d e fun v g hq => ih v g hq Q' hw
  | fnKeep Q1 a b c d e _ =>
    refine fun Q' hw => .fnKeep Q1 a b c d fun x s' hq => ?_
    obtain ⟨p, vs, r, q⟩ := e x s' hq
    exact ⟨p, vs, r, hw _ _ q⟩
  | fnClean Q1 a b c d e _ =>
    refine fun Q' hw => .fnClean Q1 a b c d fun x s' hq => ?_
    obtain ⟨p, vs, ws, r, t, u, x, q⟩ := e x s' hq
    exact ⟨p, vs, ws, r, t, u, x, hw _ _ q⟩
  | prim h => exact fun Q' hw => .prim (hp _ _ _ _ _ hw h)
theorem Ev.monoC {E : Env} (hp : PrimMono E) {c : Code} {s : St} {Q Q' : X → St → Prop} (h : Ev E (.code c s Q)) (hw : ∀ e s', Q e s' → Q' e s') : Ev E (.code c s Q') := h.weak hp Q' hw
theorem Ev.monoO {E : Env} (hp : PrimMono E) {ops : Array Oper} {l : List Nat} {s : St} {Q Q' : St → Prop} (h : Ev E (.ops ops l s Q)) (hw : ∀ s', Q s' → Q' s') : Ev E (.ops ops l s Q') := h.weak hp Q' hw
theorem Ev.monoF {E : Env} (hp : PrimMono E) {f : FuncId} {args : List V} {g : G} {Q Q' : V → G → Prop} (h : Ev E (.call f args g Q)) (hw : ∀ v g', Q v g' → Q' v g') : Ev E (.call f args g Q') := h.weak hp Q' hw
end Go.Vm
set_option linter.unusedVariables false
namespace Go.Vm
open Go
def pairS (cl : Nat → Bool) (esc : Nat → Bool) (ops : Array Oper) (i k : Nat) (a b : Oper) : Option Nat :=
  bif a.apart ops b then
    match clOf esc a, clOf esc b with
    | .q, _ => some 0
    | _, .q => some 0
    | .r, .r => some 0
    | .r, .c => bif cl k then some 0 else some 2
    | .r, .l => some 1
    | .r, .n => some 1
    | .c, .r => bif cl i then some 0 else none
    | .c, .c => bif cl i && cl k then some 0 else none
    | .c, .l => bif cl i && near esc b then some 0 else none
    | .l, .n => bif near esc a then some 0 else none
    | .l, .l => bif near esc a || near esc b then some 0 else none
    | .l, .c => bif near esc a then some 0 else none
    | .n, .l => bif near esc b then some 0 else none
    | _, _ => none
  else none
def planAt (strict : Bool) (cl : Nat → Bool) (esc : Nat → Bool) (ops : Array Oper) (tab : List Nat) (mask : Nat) (i : Nat) (a : Oper) : Nat → List Oper → Option (List (Nat × Bool))
  | _, [] => some []
  | k, b :: l => bif mask.testBit k || Nat.beq k i || (tab.getD k 0).testBit i then planAt strict cl esc ops tab mask i a (k + 1) l else
    match pairS cl esc ops i k a b with
    | none => none
    | some t => match planAt strict cl esc ops tab mask i a (k + 1) l with
      | none => none
      | some r => match t with
        | 0 => some r
        | 1 => some ((k, false) :: r)
        | _ => bif strict then none else some ((k, true) :: r)
def freeB (mask : Nat) (o : Oper) : Bool := o.after.toList.all fun e => !Region.binds .any e || mask.testBit e.on
def readyM (mask : Nat) : Nat → List Oper → List Nat
  | _, [] => []
  | k, o :: l => bif !mask.testBit k && freeB mask o then k :: readyM mask (k + 1) l else readyM mask (k + 1) l
def firstSafe (strict : Bool) (cl : Nat → Bool) (esc : Nat → Bool) (ops : Array Oper) (tab : List Nat) (mask : Nat) : List Nat → Option (Nat × List (Nat × Bool))
  | [] => none
  | i :: l => match ops[i]? with
    | none => none
    | some a => match planAt strict cl esc ops tab mask i a 0 ops.toList with
      | some r => some (i, r)
      | none => firstSafe strict cl esc ops tab mask l
def addrsOk (E : Env) (ops : Array Oper) (s : St) (a : Oper) : List (Nat × Bool) → Bool
  | [] => true
  | (k, t) :: l => (bif t then localOk E ops s a else match ops[k]? with
    | some b => addrOk E s a b
    | none => true) && addrsOk E ops s a l
inductive EvM (E : Env) (cl : Nat → Bool) (esc : Nat → Bool) (ops : Array Oper) (tab : List Nat) (Q : St → Prop) : Nat → Nat → St → Prop where
  | done {n mask s} : readyM mask 0 ops.toList = [] → Q s → EvM E cl esc ops tab Q n mask s
  | one {n mask i ad s s' a} (strict : Bool) : firstSafe strict cl esc ops tab mask (readyM mask 0 ops.toList) = some (i, ad) → ops[i]? = some a → addrsOk E ops s a ad = true → Do E cl ops i s s' →
      EvM E cl esc ops tab Q n (mask ||| 2 ^ i) s' → EvM E cl esc ops tab Q (n + 1) mask s
  | all {n mask s} (f : Nat → St) : readyM mask 0 ops.toList ≠ [] → (∀ i, i ∈ readyM mask 0 ops.toList → Do E cl ops i s (f i)) →
      (∀ i, i ∈ readyM mask 0 ops.toList → EvM E cl esc ops tab Q n (mask ||| 2 ^ i) (f i)) → EvM E cl esc ops tab Q (n + 1) mask s
section
variable {E : Env} {cl : Nat → Bool} {ops : Array Oper}
theorem pairS_ok {esc : Nat → Bool} {i k : Nat} {a b : Oper} {t : Nat} (h : pairS cl esc ops i k a b = some t) {s : St} (he : s.esc = esc) (ha : t = 1 → addrOk E s a b = true) (hl : t ≠ 0 → t ≠ 1 → localOk E ops s a = true) : pairOk E cl ops s i k a b = true := by
  subst he
  have hn : (match b.dst with | some d => !s.esc d | none => false) = near s.esc b := rfl
  unfold pairS at h
  unfold pairOk
  cases hap : a.apart ops b with
  | false => rw [hap] at h; simp at h
  | true =>
    rw [hap] at h
    simp only [cond_true] at h
    simp only [Bool.true_and]
    revert h
    cases clOf s.esc a <;> cases clOf s.esc b <;> intro h <;>
      first
      | rfl
      | (simp only at h; cases h; exact ha rfl)
      | (simp only at h
         cases h)
      | (simp only at h ⊢
         cases hx : cl i <;> rw [hx] at h <;> simp_all; done)
      | (simp only at h ⊢
         cases hx : cl k <;> rw [hx] at h <;> simp only [cond_true, cond_false] at h <;> cases h <;> simp [hl]; done)
      | (simp only at h ⊢
         cases hx : cl i <;> cases hy : cl k <;> rw [hx, hy] at h <;> simp_all; done)
      | (simp only at h ⊢
         cases hx : near s.esc a <;> rw [hx] at h <;> simp_all; done)
      | (simp only at h ⊢
         cases hx : near s.esc b <;> rw [hx] at h <;> simp_all; done)
      | (simp only at h ⊢
         cases hx : near s.esc a <;> cases hy : near s.esc b <;> rw [hx, hy] at h <;> simp_all; done)
      | (simp only at h ⊢
         cases hx : cl i <;> cases hy : near s.esc b <;> rw [hx, hy] at h <;> first | (simp_all; done) | (simp_all; exact hn))
theorem planAt_ok {strict : Bool} {esc : Nat → Bool} {tab : List Nat} {mask i : Nat} {a : Oper} : ∀ (l : List Oper) (k : Nat) (r : List (Nat × Bool)), planAt strict cl esc ops tab mask i a k l = some r →
    ∀ (j : Nat) (b : Oper), l[j]? = some b → mask.testBit (k + j) = false → k + j ≠ i → (tab.getD (k + j) 0).testBit i = false → ∃ t, pairS cl esc ops i (k + j) a b = some t ∧ (t = 1 → (k + j, false) ∈ r) ∧ (t ≠ 0 → t ≠ 1 → (k + j, true) ∈ r) := by
  intro l
  induction l with
  | nil => intro k r _ j b h; simp at h
  | cons x l ih =>
    intro k r h j b hb hm hne hbit
    unfold planAt at h
    cases hc : mask.testBit k || Nat.beq k i || (tab.getD k 0).testBit i with
    | true =>
      rw [hc] at h
      simp only [cond_true] at h
      cases j with
      | zero =>
        exfalso
        simp only [Nat.add_zero] at hm hbit hne
        rw [hm, hbit, Bool.or_false, Bool.false_or] at hc
        exact hne (Nat.eq_of_beq_eq_true hc)
      | succ j =>
        simp at hb
        rw [show k + (j + 1) = k + 1 + j by omega] at *
        exact ih (k + 1) r h j b hb hm hne hbit
    | false =>
      rw [hc] at h
      simp only [cond_false] at h
      cases hp : pairS cl esc ops i k a x with
      | none => rw [hp] at h; cases h
      | some t =>
        rw [hp] at h
        simp only at h
        cases hr : planAt strict cl esc ops tab mask i a (k + 1) l with
        | none => rw [hr] at h; cases h
        | some r' =>
          rw [hr] at h
          simp only at h
          have sub : ∀ y ∈ r', y ∈ r := by
            intro y hy
            split at h
            · cases h; exact hy
            · cases h; exact List.mem_cons_of_mem _ hy
            · cases strict <;> simp only [cond_true, cond_false] at h <;> cases h
              exact List.mem_cons_of_mem _ hy
          cases j with
          | zero =>
            simp at hb; subst hb
            refine ⟨t, by simpa using hp, fun e => ?_, fun e1 e2 => ?_⟩
            · subst e
              simp only at h
              cases h
              simp
            · split at h
              · exact absurd rfl e1
              · exact absurd rfl e2
              · cases strict <;> simp only [cond_true, cond_false] at h <;> cases h; simp
          | succ j =>
            simp at hb
            rw [show k + (j + 1) = k + 1 + j by omega] at *
            obtain ⟨t', h1, h2, h3⟩ := ih (k + 1) r' hr j b hb hm hne hbit
            exact ⟨t', h1, fun e => sub _ (h2 e), fun e1 e2 => sub _ (h3 e1 e2)⟩
theorem readyM_iff {mask : Nat} : ∀ (l : List Oper) (k i : Nat), i ∈ readyM mask k l ↔ ∃ j o, i = k + j ∧ l[j]? = some o ∧ mask.testBit i = false ∧ freeB mask o = true := by
  intro l
  induction l with
  | nil => intro k i; simp [readyM]
  | cons x l ih =>
    intro k i
    have tail : (∃ j o, i = k + 1 + j ∧ l[j]? = some o ∧ mask.testBit i = false ∧ freeB mask o = true) ↔ ∃ j o, i = k + (j + 1) ∧ (x :: l)[j + 1]? = some o ∧ mask.testBit i = false ∧ freeB mask o = true := by
      constructor
      · rintro ⟨j, o, h1, h2⟩; exact ⟨j, o, by omega, by simpa using h2⟩
      · rintro ⟨j, o, h1, h2⟩; exact ⟨j, o, by omega, by simpa using h2⟩
    unfold readyM
    cases hc : !mask.testBit k && freeB mask x with
    | true =>
      simp only [Bool.and_eq_true, Bool.not_eq_true'] at hc
      simp only [cond_true, List.mem_cons, ih, tail]
      constructor
      · rintro (rfl | ⟨j, o, h⟩)
        · exact ⟨0, x, rfl, rfl, hc.1, hc.2⟩
        · exact ⟨j + 1, o, h⟩
      · rintro ⟨j, o, h1, h2, h3⟩
        cases j with
        | zero => exact Or.inl h1
        | succ j => exact Or.inr ⟨j, o, h1, h2, h3⟩
    | false =>
      simp only [cond_false, ih, tail]
      constructor
      · rintro ⟨j, o, h⟩; exact ⟨j + 1, o, h⟩
      · rintro ⟨j, o, h1, h2, h3, h4⟩
        cases j with
        | zero =>
          exfalso
          simp at h1 h2
          subst h1 h2
          rw [h3, h4] at hc
          simp at hc
        | succ j => exact ⟨j, o, h1, h2, h3, h4⟩
def Bits (ops : Array Oper) (listed : Array Bool) (mask : Nat) : Prop := listed.size = ops.size ∧ (∀ k, k < ops.size → listed.getD k true = mask.testBit k) ∧ ∀ k, ops.size ≤ k → mask.testBit k = false
theorem Bits.ready {listed : Array Bool} {mask : Nat} (h : Bits ops listed mask) {i : Nat} : i ∈ Region.ready .any ops listed ↔ i ∈ readyM mask 0 ops.toList := by
  rw [readyM_iff, ready_iff]
  have key : ∀ (o : Oper), (∀ e ∈ o.after.toList, Region.binds .any e = true → listed.getD e.on false = true) ↔ freeB mask o = true := by
    intro o
    unfold freeB
    rw [List.all_eq_true]
    have one : ∀ n, listed.getD n false = mask.testBit n := by
      intro n
      by_cases hn : n < ops.size
      · rw [← h.2.1 n hn]
        have : n < listed.size := by rw [h.1]; exact hn
        simp [Array.getD, this]
      · rw [h.2.2 n (by omega)]
        have : ¬ n < listed.size := by rw [h.1]; exact hn
        simp [Array.getD, this]
    constructor
    · intro hh e he
      cases hb : Region.binds .any e
      · rfl
      · simp only [Bool.not_true, Bool.false_or]; rw [← one]; exact hh e he hb
    · intro hh e he hb
      have := hh e he
      rw [hb] at this
      simp only [Bool.not_true, Bool.false_or] at this
      rw [one]; exact this
  constructor
  · rintro ⟨o, h1, h2, h3⟩
    have hlt := (Array.getElem?_eq_some_iff.1 h1).1
    exact ⟨i, o, by omega, by simpa using h1, by rw [← h.2.1 i hlt]; exact h2, (key o).1 h3⟩
  · rintro ⟨j, o, h1, h2, h3, h4⟩
    have : j = i := by omega
    subst this
    have ho : ops[j]? = some o := by simpa using h2
    have hlt := (Array.getElem?_eq_some_iff.1 ho).1
    exact ⟨o, ho, by rw [h.2.1 j hlt]; exact h3, (key o).2 h4⟩
theorem Bits.set {listed : Array Bool} {mask : Nat} (h : Bits ops listed mask) {i : Nat} (hi : i < ops.size) : Bits ops (listed.setIfInBounds i true) (mask ||| 2 ^ i) := by
  refine ⟨by simp [h.1], fun k hk => ?_, fun k hk => ?_⟩
  · rw [getD_set (by rw [h.1]; exact hi), Nat.testBit_or, Nat.testBit_two_pow]
    by_cases hki : k = i
    · simp [hki]
    · have : ¬ i = k := fun e => hki e.symm
      simp [hki, this, h.2.1 k hk]
  · rw [Nat.testBit_or, Nat.testBit_two_pow, h.2.2 k hk]
    have : ¬ i = k := by omega
    simp [this]
theorem addrsOk_at {s : St} {a : Oper} : ∀ {l : List (Nat × Bool)}, addrsOk E ops s a l = true → (∀ k, (k, false) ∈ l → ∀ b, ops[k]? = some b → addrOk E s a b = true) ∧ ∀ k, (k, true) ∈ l → localOk E ops s a = true := by
  intro l
  induction l with
  | nil => intro _; exact ⟨fun k hk => by (cases hk), fun k hk => by (cases hk)⟩
  | cons x l ih =>
    obtain ⟨k0, t⟩ := x
    intro h
    simp only [addrsOk, Bool.and_eq_true] at h
    refine ⟨fun k hk b hb => ?_, fun k hk => ?_⟩
    · rcases List.mem_cons.1 hk with e | hk
      · cases e
        have := h.1; simp only [cond_false] at this; rw [hb] at this; exact this
      · exact (ih h.2).1 k hk b hb
    · rcases List.mem_cons.1 hk with e | hk
      · cases e
        exact h.1
      · exact (ih h.2).2 k hk
theorem firstSafe_ok {strict : Bool} {esc : Nat → Bool} {tab : List Nat} {mask : Nat} : ∀ (l : List Nat) (i : Nat) (ad : List (Nat × Bool)), firstSafe strict cl esc ops tab mask l = some (i, ad) →
    i ∈ l ∧ ∃ a, ops[i]? = some a ∧ planAt strict cl esc ops tab mask i a 0 ops.toList = some ad := by
  intro l
  induction l with
  | nil => intro i ad h; cases h
  | cons x l ih =>
    intro i ad h
    unfold firstSafe at h
    cases ho : ops[x]? with
    | none => rw [ho] at h; cases h
    | some a =>
      rw [ho] at h
      simp only at h
      cases hp : planAt strict cl esc ops tab mask x a 0 ops.toList with
      | some r =>
        rw [hp] at h
        cases h
        exact ⟨by simp, a, ho, hp⟩
      | none =>
        rw [hp] at h
        obtain ⟨h1, h2⟩ := ih i ad h
        exact ⟨List.mem_cons_of_mem _ h1, h2⟩
theorem EvM.evD {tab : List Nat} {esc : Nat → Bool} {Q : St → Prop} {n mask : Nat} {s : St} (h : EvM E cl esc ops tab Q n mask s) : ∀ listed : Array Bool, Bits ops listed mask → s.esc = esc → EvD E cl ops tab Q n listed s := by
  induction h with
  | done hr hq =>
    intro listed hb he
    refine .done ?_ hq
    rw [List.eq_nil_iff_forall_not_mem]
    intro i hi
    rw [hb.ready, hr] at hi
    cases hi
  | @one n mask i ad s s' a strict hf ha had hdo _ ih =>
    intro listed hb he
    obtain ⟨f1, a', f2, f3⟩ := firstSafe_ok _ i ad hf
    rw [ha] at f2; cases f2
    have hlt := (Array.getElem?_eq_some_iff.1 ha).1
    refine .first i s' (hb.ready.2 f1) ?_ hdo (ih _ (hb.set hlt) (by rw [(hdo.tm ha).2.2]; exact he))
    unfold safeB
    rw [List.all_eq_true]
    intro k hk
    have hk := List.mem_range.1 hk
    rw [hb.2.1 k hk]
    cases hm : mask.testBit k with
    | true => simp
    | false =>
      by_cases h2 : k = i
      · simp [h2]
      · have hbk : ops[k]? = some ops[k] := by simp [hk]
        rw [ha, hbk]
        cases hbit : (tab.getD k 0).testBit i with
        | true => simp
        | false =>
          obtain ⟨t, q1, q2, q3⟩ := planAt_ok _ 0 ad f3 k ops[k] (by simp [hk]) (by rw [Nat.zero_add]; exact hm) (by rw [Nat.zero_add]; exact h2) (by rw [Nat.zero_add]; exact hbit)
          rw [Nat.zero_add] at q1 q2 q3
          have := pairS_ok (E := E) q1 he (fun e => (addrsOk_at had).1 k (q2 e) _ hbk) (fun e1 e2 => (addrsOk_at had).2 k (q3 e1 e2))
          simp [this]
  | @all n mask s f hne h1 _ ih =>
    intro listed hb he
    refine .all f (fun i hi => h1 i (hb.ready.1 hi)) (fun i hi => ?_) (fun e => ?_)
    · obtain ⟨o, ho, _⟩ := ready_iff.1 hi
      have hlt := (Array.getElem?_eq_some_iff.1 ho).1
      exact ih i (hb.ready.1 hi) _ (hb.set hlt) (by rw [((h1 i (hb.ready.1 hi)).tm ho).2.2]; exact he)
    · exfalso
      obtain ⟨r, l, hr⟩ := List.exists_cons_of_ne_nil hne
      have : r ∈ Region.ready .any ops listed := hb.ready.2 (by rw [hr]; simp)
      rw [e] at this; cases this
theorem EvM.sound {id : Nat} {s : St} {Q : X → St → Prop} (hm : E.P.follows .mixedOrders = true) (ht : tabOk ops (aheads ops) = true)
    (h : EvM E cl s.esc ops (aheads ops) (Q .normal) ops.size 0 s) : Ev E (.code (.region id ops true) s Q) := by
  refine Ev.drawn (cl := cl) hm ht (h.evD _ ⟨by simp, fun k hk => ?_, fun k _ => by simp⟩ rfl)
  simp [Array.getD, hk]
end
end Go.Vm
set_option linter.unusedVariables false
namespace Go.Vm
open Go
inductive Tr where
  | nil
  | node (v : V) (l r : Tr)
def Tr.get : Tr → Nat → V
  | .nil, _ => .undef
  | .node v l r, i => match i with
    | 0 => v
    | i + 1 => bif Nat.beq (Nat.mod i 2) 0 then l.get (Nat.div i 2) else r.get (Nat.div i 2)
def Tr.set : Nat → Tr → Nat → V → Tr
  | 0, t, _, _ => t
  | d + 1, .nil, i, v => match i with
    | 0 => .node v .nil .nil
    | i + 1 => bif Nat.beq (Nat.mod i 2) 0 then .node .undef (Tr.set d .nil (Nat.div i 2) v) .nil else .node .undef .nil (Tr.set d .nil (Nat.div i 2) v)
  | d + 1, .node x l r, i, v => match i with
    | 0 => .node v l r
    | i + 1 => bif Nat.beq (Nat.mod i 2) 0 then .node x (l.set d (Nat.div i 2) v) r else .node x l (r.set d (Nat.div i 2) v)
def Tr.args (n : Nat) (t : Tr) : List V → Tr
  | [] => t
  | v :: l => Tr.args (n + 1) (t.set 12 n v) l
def rgGet : List (Nat × (Nat × List V)) → Nat → Option (Nat × List V)
  | [], _ => none
  | (k, x) :: l, t => bif Nat.beq k t then some x else rgGet l t
def rgSet : List (Nat × (Nat × List V)) → Nat → Nat × List V → List (Nat × (Nat × List V))
  | [], t, x => [(t, x)]
  | (k, y) :: l, t, x => bif Nat.beq k t then (k, x) :: l else (k, y) :: rgSet l t x
structure Fr where
  tr : Tr
  rg : List (Nat × (Nat × List V))
  g : G
def Fr.st (nt : Nat) (esc : Nat → Bool) (x : Fr) : St := { nt := nt, tm := fun t => x.tr.get t, rg := fun t => rgGet x.rg t, esc := esc, g := x.g }
def Fr.put (nt : Nat) (x : Fr) (dst : Option Tmp) (v : V) : Option Fr :=
  match dst with
  | none => some x
  | some d => bif Nat.blt d nt && Nat.blt d 4000 then some { x with tr := x.tr.set 12 d v } else none
def rgKey (E : Env) (s : St) (o : Oper) : Option Nat :=
  match o.op with
  | .alloc _ => o.dst
  | .box _ _ => o.dst
  | .store _ a _ => match s.ev E a with
    | some (.loc t _ _) => some t
    | _ => none
  | _ => none
def rgAfter (l : List (Nat × (Nat × List V))) (key : Option Nat) (s1 : St) : Option (List (Nat × (Nat × List V))) :=
  match key with
  | none => some l
  | some t => match s1.rg t with
    | some x => some (rgSet l t x)
    | none => match rgGet l t with
      | none => some l
      | some _ => none
def fNat {α : Type} (n : Nat) (k : Nat → α) : α :=
  match n with
  | 0 => k 0
  | m + 1 => k (m + 1)
def fInt {α : Type} (n : Int) (k : Int → α) : α :=
  match n with
  | .ofNat m => fNat m fun m => k (.ofNat m)
  | .negSucc m => fNat m fun m => k (.negSucc m)
def fV {α : Type} (v : V) (k : V → α) : α :=
  match v with
  | .p x => match x with
    | .int i n => fInt n fun n => k (.p (.int i n))
    | .bool b => match b with
      | true => k (.p (.bool true))
      | false => k (.p (.bool false))
    | x => k (.p x)
  | .sl rows s => k (.sl rows s)
  | .arr a b c d e => fNat b fun b => fNat c fun c => k (.arr a b c d e)
  | .ptr a b => fNat b fun b => k (.ptr a b)
  | v => k v
def fL {α β : Type} (l : List β) (k : List β → α) : α :=
  match l with
  | [] => k []
  | a :: l => k (a :: l)
def fG {α : Type} (g : G) (k : G → α) : α :=
  match g with
  | ⟨objs, toks, wo, wt⟩ => fL objs fun objs => fL toks fun toks => fNat wo fun wo => fNat wt fun wt => k ⟨objs, toks, wo, wt⟩
mutual
def PV.same : PV → PV → Bool
  | .int k n, .int k' n' => k == k' && n == n'
  | .bool b, .bool b' => b == b'
  | .str s, .str s' => s.data.toList == s'.data.toList
  | .flt k b, .flt k' b' => k == k' && b == b'
  | .nilsl, .nilsl => true
  | .nilptr, .nilptr => true
  | .nilmap, .nilmap => true
  | .nilfn, .nilfn => true
  | .nilif, .nilif => true
  | .sl a, .sl b => sameRows a b
  | _, _ => false
def sameRow : List PV → List PV → Bool
  | [], [] => true
  | a :: l, b :: m => PV.same a b && sameRow l m
  | _, _ => false
def sameRows : List (List PV) → List (List PV) → Bool
  | [], [] => true
  | a :: l, b :: m => sameRow a b && sameRows l m
  | _, _ => false
end
def samePL : List V → List V → Bool
  | [], [] => true
  | .p a :: l, .p b :: m => PV.same a b && samePL l m
  | .agg a :: l, .agg b :: m => (match pvCells a, pvCells b with
    | some x, some y => sameRow x y
    | _, _ => false) && samePL l m
  | _, _ => false
def sameSK : SK → SK → Bool
  | .exact, .exact => true
  | .own a b c, .own a' b' c' => Nat.beq a a' && Nat.beq b b' && Nat.beq c c'
  | _, _ => false
mutual
def sameV : V → V → Bool
  | .p x, .p y => PV.same x y
  | .sl r k, .sl r' k' => sameVR r r' && sameSK k k'
  | .arr a b c d e, .arr a' b' c' d' e' => Nat.beq a a' && Nat.beq b b' && Nat.beq c c' && Nat.beq d d' && Nat.beq e e'
  | .ptr a b, .ptr a' b' => Nat.beq a a' && Nat.beq b b'
  | .ref r, .ref r' => sameVs r r'
  | .loc a b c, .loc a' b' c' => Nat.beq a a' && Nat.beq b b' && Nat.beq c c'
  | .map a, .map a' => Nat.beq a a'
  | .fn (.func f) r, .fn (.func f') r' => Nat.beq f f' && sameVs r r'
  | .agg r, .agg r' => sameVs r r'
  | .tup r, .tup r' => sameVs r r'
  | .undef, .undef => true
  | _, _ => false
def sameVs : List V → List V → Bool
  | [], [] => true
  | a :: l, b :: m => sameV a b && sameVs l m
  | _, _ => false
def sameVR : List (List V) → List (List V) → Bool
  | [], [] => true
  | a :: l, b :: m => sameVs a b && sameVR l m
  | _, _ => false
end
def sameNs : List Nat → List Nat → Bool
  | [], [] => true
  | a :: l, b :: m => Nat.beq a b && sameNs l m
  | _, _ => false
def sameEs : List (PV × V × Nat) → List (PV × V × Nat) → Bool
  | [], [] => true
  | (a, b, c) :: l, (a', b', c') :: m => PV.same a a' && sameV b b' && Nat.beq c c' && sameEs l m
  | _, _ => false
def sameON : Option Nat → Option Nat → Bool
  | none, none => true
  | some a, some b => Nat.beq a b
  | _, _ => false
def sameOb : Ob → Ob → Bool
  | .cells a, .cells b => sameVs a b
  | .map a c, .map b d => sameEs a b && Nat.beq c d
  | .iter a b c d, .iter a' b' c' d' => sameON a a' && Nat.beq b b' && sameNs c c' && Nat.beq d d'
  | .dead, .dead => true
  | _, _ => false
def sameObs : List Ob → List Ob → Bool
  | [], [] => true
  | a :: l, b :: m => sameOb a b && sameObs l m
  | _, _ => false
def sameG : G → G → Bool
  | ⟨a, b, c, d⟩, ⟨a', b', c', d'⟩ => sameObs a a' && sameNs b b' && Nat.beq c c' && Nat.beq d d'
def sameTr : Tr → Tr → Bool
  | .nil, .nil => true
  | .node v l r, .node v' l' r' => sameV v v' && sameTr l l' && sameTr r r'
  | _, _ => false
def sameRg : List (Nat × (Nat × List V)) → List (Nat × (Nat × List V)) → Bool
  | [], [] => true
  | (a, b, c) :: l, (a', b', c') :: m => Nat.beq a a' && Nat.beq b b' && sameVs c c' && sameRg l m
  | _, _ => false
def sameFr : Fr → Fr → Bool
  | ⟨a, b, c⟩, ⟨a', b', c'⟩ => sameTr a a' && sameRg b b' && sameG c c'
def mergeFr : List Fr → List Fr → List Fr
  | [], b => b
  | x :: l, b => bif b.any (sameFr x) then mergeFr l b else x :: mergeFr l b
inductive Out where
  | clean (vs : List (List V))
  | keep (l : List (List V × G))
def bindO {α β : Type} : List α → (α → Option (List β)) → Option (List β)
  | [], _ => some []
  | [a], f => f a
  | a :: l, f => match f a with
    | none => none
    | some x => match bindO l f with
      | none => none
      | some y => some (x ++ y)
def addOne (l : List (List V)) (v : List V) : List (List V) := if l.any (samePL v) then l else v :: l
def clean1 (E : Env) (nt : Nat) (esc : Nat → Bool) (g : G) (rs : List ResultVar) (x : Fr) (rest : Option (List (List V))) : Option (List (List V)) :=
  match resOf E (x.st nt esc) rs with
  | none => none
  | some vs => match sealL x.g vs with
    | none => none
    | some ws => bif Nat.beq x.g.wo g.objs.length && Nat.beq x.g.wt g.toks.length then
        (match rest with
        | none => none
        | some [] => some [ws]
        | some (w :: l') => some (addOne (w :: l') ws))
      else none
def cleanAll (E : Env) (nt : Nat) (esc : Nat → Bool) (g : G) (rs : List ResultVar) : List (X × Fr) → Option (List (List V))
  | [] => some []
  | (e, x) :: l => match e with
    | .exit _ => none
    | _ => clean1 E nt esc g rs x (cleanAll E nt esc g rs l)
def keep1 (E : Env) (nt : Nat) (esc : Nat → Bool) (g : G) (rs : List ResultVar) (x : Fr) (rest : Option (List (List V × G))) : Option (List (List V × G)) :=
  match resOf E (x.st nt esc) rs with
  | none => none
  | some vs => match rest with
    | none => none
    | some l' => some ((vs, { x.g with wo := min g.wo x.g.wo, wt := min g.wt x.g.wt }) :: l')
def keepAll (E : Env) (nt : Nat) (esc : Nat → Bool) (g : G) (rs : List ResultVar) : List (X × Fr) → Option (List (List V × G))
  | [] => some []
  | (e, x) :: l => match e with
    | .exit _ => none
    | _ => keep1 E nt esc g rs x (keepAll E nt esc g rs l)
structure Cfg where
  E : Env
  cleans : FuncId → Bool
  keeps : FuncId → Bool
def Cfg.cl (C : Cfg) (ops : Array Oper) (i : Nat) : Bool :=
  match ops[i]? with
  | some o => match o.op with
    | .call c => match c.callee with
      | .value (.func f) => C.cleans f
      | _ => true
    | _ => false
  | none => false
def enterX (args : List V) (g : G) : Fr :=
  { tr := Tr.args 0 .nil args, rg := [], g := { g with wo := g.objs.length, wt := g.toks.length } }
def put1 (nt : Nat) (x : Fr) (dst : Option Tmp) : List (List V) → Option (List Fr)
  | [] => some []
  | vs :: l => match x.put nt dst (pack vs), put1 nt x dst l with
    | some y, some ys => some (y :: ys)
    | _, _ => none
def put2 (nt : Nat) (x : Fr) (dst : Option Tmp) : List (List V × G) → Option (List Fr)
  | [] => some []
  | (vs, g) :: l => match Fr.put nt { x with g := g } dst (pack vs), put2 nt x dst l with
    | some y, some ys => some (y :: ys)
    | _, _ => none
def putAll (nt : Nat) (x : Fr) (dst : Option Tmp) : Out → Option (List Fr)
  | .clean vs => put1 nt x dst vs
  | .keep l => put2 nt x dst l
def nextAll (nt : Nat) (x : Fr) (dst : Option Tmp) (it : V) : List (Option (PV × V × Nat)) → Option (List Fr)
  | [] => some []
  | c :: l => match afterNext x.g it c with
    | none => none
    | some (v, g) => match Fr.put nt { x with g := g } dst v, nextAll nt x dst it l with
      | some y, some ys => some (y :: ys)
      | _, _ => none
section
variable (C : Cfg)
mutual
def runC : Nat → FuncId → Nat → Code → Fr → Option (List (X × Fr))
  | 0, _, _, _, _ => none
  | n + 1, F, nt, c, x => match c with
    | .skip => some [(.normal, x)]
    | .ret => some [(.ret, x)]
    | .exit id => some [(.exit id, x)]
    | .seq a b => match runC n F nt a x with
      | none => none
      | some l => bindO l fun r => match r with
        | (.normal, y) => runC n F nt b y
        | (.exit i, y) => some [(.exit i, y)]
        | (.ret, y) => some [(.ret, y)]
    | .cond c a b => match (x.st nt (C.E.esc F)).ev C.E c with
      | some (.p (.bool true)) => runC n F nt a x
      | some (.p (.bool false)) => runC n F nt b x
      | _ => none
    | .block id b => match runC n F nt b x with
      | none => none
      | some l => bindO l fun r => match r with
        | (.exit id', y) => bif Nat.beq id' id then some [(.normal, y)] else some [(.exit id', y)]
        | (.normal, y) => some [(.normal, y)]
        | (.ret, y) => some [(.ret, y)]
    | .loop b => match runC n F nt b x with
      | none => none
      | some l => bindO l fun r => match r with
        | (.normal, y) => runC n F nt (.loop b) y
        | (.exit i, y) => some [(.exit i, y)]
        | (.ret, y) => some [(.ret, y)]
    | .region id ops d => match d with
      | false => match runO n F nt ops (List.range ops.size) x with
        | none => none
        | some l => bindO l fun y => some [(.normal, y)]
      | true => bif tabOk ops (aheads ops) then
          match runT n F nt ops (aheads ops) ops.size 0 x with
          | none => none
          | some l => bindO l fun y => some [(.normal, y)]
        else none
    | _ => none
def runO : Nat → FuncId → Nat → Array Oper → List Nat → Fr → Option (List Fr)
  | 0, _, _, _, _, _ => none
  | n + 1, F, nt, ops, l, x => match l with
    | [] => some [x]
    | i :: l => match ops[i]? with
      | none => none
      | some o => match wants ops (x.st nt (C.E.esc F)) o with
        | none => none
        | some false => match x.put nt o.dst .undef with
          | none => none
          | some y => runO n F nt ops l y
        | some true => match stepV C.E (x.st nt (C.E.esc F)) o with
          | some (v, s) => fV v fun v => fG s.g fun g => match rgAfter x.rg (rgKey C.E (x.st nt (C.E.esc F)) o) s with
            | none => none
            | some rg => match Fr.put nt { tr := x.tr, rg := rg, g := g } o.dst v with
              | none => none
              | some y => runO n F nt ops l y
          | none => match callOf C.E (x.st nt (C.E.esc F)) o with
            | some (f, args) => match runF n f args x.g with
              | none => none
              | some out => match putAll nt x o.dst out with
                | none => none
                | some ys => bindO ys fun y => runO n F nt ops l y
            | none => match o.op with
              | .next it false => match (x.st nt (C.E.esc F)).ev C.E it with
                | none => none
                | some w => match nextOf x.g w with
                  | none => none
                  | some cs => match nextAll nt x o.dst w cs with
                    | none => none
                    | some ys => bindO ys fun y => runO n F nt ops l y
              | _ => none
def runT : Nat → FuncId → Nat → Array Oper → List Nat → Nat → Nat → Fr → Option (List Fr)
  | 0, _, _, _, _, _, _, _ => none
  | n + 1, F, nt, ops, tab, m, mask, x => match readyM mask 0 ops.toList with
    | [] => some [x]
    | r :: rs => match m with
      | 0 => none
      | m + 1 => match firstSafe false (C.cl ops) (C.E.esc F) ops tab mask (r :: rs) with
        | some (i, ad) => match ops[i]? with
          | none => none
          | some o => bif addrsOk C.E ops (x.st nt (C.E.esc F)) o ad then
              match runP n F nt ops i o x with
              | none => none
              | some y => runT n F nt ops tab m (mask ||| 2 ^ i) y
            else match firstSafe true (C.cl ops) (C.E.esc F) ops tab mask (r :: rs) with
              | some (i, ad) => match ops[i]? with
                | none => none
                | some o => bif addrsOk C.E ops (x.st nt (C.E.esc F)) o ad then
                    match runP n F nt ops i o x with
                    | none => none
                    | some y => runT n F nt ops tab m (mask ||| 2 ^ i) y
                  else none
              | none => runA n F nt ops tab m mask (r :: rs) x
        | none => runA n F nt ops tab m mask (r :: rs) x
def runP : Nat → FuncId → Nat → Array Oper → Nat → Oper → Fr → Option Fr
  | 0, _, _, _, _, _, _ => none
  | n + 1, F, nt, ops, i, o, x => match wants ops (x.st nt (C.E.esc F)) o with
    | none => none
    | some false => x.put nt o.dst .undef
    | some true => match stepV C.E (x.st nt (C.E.esc F)) o with
      | some (v, s) => fV v fun v => fG s.g fun g => match rgAfter x.rg (rgKey C.E (x.st nt (C.E.esc F)) o) s with
        | none => none
        | some rg => Fr.put nt { tr := x.tr, rg := rg, g := g } o.dst v
      | none => match callOf C.E (x.st nt (C.E.esc F)) o with
        | some (f, args) => match runF n f args x.g with
          | some (.clean [vs]) => x.put nt o.dst (pack vs)
          | some (.keep [(vs, g)]) => bif C.cl ops i then none else Fr.put nt { x with g := g } o.dst (pack vs)
          | _ => none
        | none => none
def runA : Nat → FuncId → Nat → Array Oper → List Nat → Nat → Nat → List Nat → Fr → Option (List Fr)
  | 0, _, _, _, _, _, _, _, _ => none
  | n + 1, F, nt, ops, tab, m, mask, l, x => match l with
    | [] => some []
    | i :: l => match ops[i]? with
      | none => none
      | some o => match runP n F nt ops i o x with
        | none => none
        | some y => match runT n F nt ops tab m (mask ||| 2 ^ i) y with
          | none => none
          | some a => match runA n F nt ops tab m mask l x with
            | none => none
            | some b => some (mergeFr a b)
def runF : Nat → FuncId → List V → G → Option Out
  | 0, _, _, _ => none
  | n + 1, f, args, g => match C.E.P.funcs[f]? with
    | none => none
    | some fn => match fn.body with
      | none => none
      | some body => bif Nat.ble args.length fn.ntmps && Nat.blt args.length 4000 then
          match runC n f fn.ntmps body (enterX args g) with
          | none => none
          | some outs => match (bif C.keeps f then none else cleanAll C.E fn.ntmps (C.E.esc f) g fn.results.toList outs) with
            | some vs => some (.clean vs)
            | none => match keepAll C.E fn.ntmps (C.E.esc f) g fn.results.toList outs with
              | some l => some (.keep l)
              | none => none
        else none
end
end
end Go.Vm
