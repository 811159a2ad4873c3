/- Part 7 of the texts that the claim leans on: a judgement on the program over plain values, its soundness, and contracts of functions. -/
import Derived.Test.YtmknnanbmkmnjaaGreatDoorV6
set_option linter.unusedVariables false
namespace Go.Vm
open Go
theorem Tr.get_set : ∀ (d : Nat) (t : Tr) (i : Nat) (v : V) (j : Nat), i + 1 < 2 ^ d → (t.set d i v).get j = if j = i then v else t.get j := by
  intro d
  induction d with
  | zero => intro t i v j h; simp at h
  | succ d ih =>
    intro t i v j h
    have nil : ∀ j, Tr.nil.get j = .undef := fun j => by cases j <;> rfl
    have hp : 2 ^ (d + 1) = 2 * 2 ^ d := by rw [Nat.pow_succ]; omega
    cases t with
    | nil =>
      cases i with
      | zero =>
        cases j with
        | zero => simp [Tr.set, Tr.get]
        | succ j => simp only [Tr.set, Tr.get]; rw [if_neg (by omega)]; cases Nat.beq (Nat.mod j 2) 0 <;> simp
      | succ i =>
        have hd : Nat.div i 2 = i / 2 := rfl
        have hm : ∀ x, Nat.mod x 2 = x % 2 := fun _ => rfl
        have hdj : ∀ x, Nat.div x 2 = x / 2 := fun _ => rfl
        cases hb : Nat.beq (Nat.mod i 2) 0 with
        | true =>
          have hi : i % 2 = 0 := Nat.eq_of_beq_eq_true hb
          simp only [Tr.set, hb, cond_true]
          cases j with
          | zero => simp [Tr.get]
          | succ j =>
            simp only [Tr.get]
            cases hj : Nat.beq (Nat.mod j 2) 0 with
            | true =>
              have hj' : j % 2 = 0 := Nat.eq_of_beq_eq_true hj
              simp only [cond_true]
              rw [ih _ _ _ _ (by rw [hd]; omega), nil]
              have : (Nat.div j 2 = Nat.div i 2) ↔ (j + 1 = i + 1) := by rw [hd, hdj]; omega
              simp only [this]
            | false =>
              have hj' : j % 2 ≠ 0 := fun e => by rw [hm, e] at hj; exact absurd hj (by decide)
              simp only [cond_false]
              rw [if_neg (by omega)]
        | false =>
          have hi : i % 2 ≠ 0 := fun e => by rw [hm, e] at hb; exact absurd hb (by decide)
          simp only [Tr.set, hb, cond_false]
          cases j with
          | zero => simp [Tr.get]
          | succ j =>
            simp only [Tr.get]
            cases hj : Nat.beq (Nat.mod j 2) 0 with
            | true =>
              have hj' : j % 2 = 0 := Nat.eq_of_beq_eq_true hj
              simp only [cond_true]
              rw [if_neg (by omega)]
            | false =>
              have hj' : j % 2 ≠ 0 := fun e => by rw [hm, e] at hj; exact absurd hj (by decide)
              simp only [cond_false]
              rw [ih _ _ _ _ (by rw [hd]; omega), nil]
              have : (Nat.div j 2 = Nat.div i 2) ↔ (j + 1 = i + 1) := by rw [hd, hdj]; omega
              simp only [this]
    | node x l r =>
      cases i with
      | zero =>
        cases j with
        | zero => simp [Tr.set, Tr.get]
        | succ j => simp only [Tr.set, Tr.get]; rw [if_neg (by omega)]
      | succ i =>
        have hd : Nat.div i 2 = i / 2 := rfl
        have hm : ∀ x, Nat.mod x 2 = x % 2 := fun _ => rfl
        have hdj : ∀ x, Nat.div x 2 = x / 2 := fun _ => rfl
        cases hb : Nat.beq (Nat.mod i 2) 0 with
        | true =>
          have hi : i % 2 = 0 := Nat.eq_of_beq_eq_true hb
          simp only [Tr.set, hb, cond_true]
          cases j with
          | zero => simp [Tr.get]
          | succ j =>
            simp only [Tr.get]
            cases hj : Nat.beq (Nat.mod j 2) 0 with
            | true =>
              have hj' : j % 2 = 0 := Nat.eq_of_beq_eq_true hj
              simp only [cond_true]
              rw [ih _ _ _ _ (by rw [hd]; omega)]
              have : (Nat.div j 2 = Nat.div i 2) ↔ (j + 1 = i + 1) := by rw [hd, hdj]; omega
              simp only [this]
            | false =>
              have hj' : j % 2 ≠ 0 := fun e => by rw [hm, e] at hj; exact absurd hj (by decide)
              simp only [cond_false]
              rw [if_neg (by omega)]
        | false =>
          have hi : i % 2 ≠ 0 := fun e => by rw [hm, e] at hb; exact absurd hb (by decide)
          simp only [Tr.set, hb, cond_false]
          cases j with
          | zero => simp [Tr.get]
          | succ j =>
            simp only [Tr.get]
            cases hj : Nat.beq (Nat.mod j 2) 0 with
            | true =>
              have hj' : j % 2 = 0 := Nat.eq_of_beq_eq_true hj
              simp only [cond_true]
              rw [if_neg (by omega)]
            | false =>
              have hj' : j % 2 ≠ 0 := fun e => by rw [hm, e] at hj; exact absurd hj (by decide)
              simp only [cond_false]
              rw [ih _ _ _ _ (by rw [hd]; omega)]
              have : (Nat.div j 2 = Nat.div i 2) ↔ (j + 1 = i + 1) := by rw [hd, hdj]; omega
              simp only [this]
theorem rgGet_set (l : List (Nat × (Nat × List V))) (t : Nat) (x : Nat × List V) (u : Nat) : rgGet (rgSet l t x) u = if u = t then some x else rgGet l u := by
  induction l with
  | nil =>
    simp only [rgSet, rgGet]
    cases hb : Nat.beq t u with
    | true => have := Nat.eq_of_beq_eq_true hb; simp [this]
    | false => rw [if_neg (fun e => by rw [e, Nat.beq_refl] at hb; cases hb)]; rfl
  | cons y l ih =>
    obtain ⟨k, y⟩ := y
    simp only [rgSet]
    cases hb : Nat.beq k t with
    | true =>
      have hk := Nat.eq_of_beq_eq_true hb
      subst hk
      simp only [cond_true, rgGet]
      cases hu : Nat.beq k u with
      | true => have := Nat.eq_of_beq_eq_true hu; simp [this]
      | false => rw [if_neg (fun e => by rw [e, Nat.beq_refl] at hu; cases hu)]; simp
    | false =>
      simp only [cond_false, rgGet, ih]
      cases hu : Nat.beq k u with
      | true =>
        have := Nat.eq_of_beq_eq_true hu
        subst this
        have hkt : k ≠ t := fun e => by rw [e, Nat.beq_refl] at hb; cases hb
        simp [hkt]
      | false => simp
theorem fNat_eq {α : Type} (n : Nat) (k : Nat → α) : fNat n k = k n := by cases n <;> rfl
theorem fInt_eq {α : Type} (n : Int) (k : Int → α) : fInt n k = k n := by cases n <;> simp [fInt, fNat_eq]
theorem fV_eq {α : Type} (v : V) (k : V → α) : fV v k = k v := by
  unfold fV
  split
  · split
    · rw [fInt_eq]
    · split <;> rfl
    · rfl
  · rfl
  · simp only [fNat_eq]
  · simp only [fNat_eq]
  · rfl
theorem fL_eq {α β : Type} (l : List β) (k : List β → α) : fL l k = k l := by cases l <;> rfl
theorem fG_eq {α : Type} (g : G) (k : G → α) : fG g k = k g := by cases g; simp only [fG, fL_eq, fNat_eq]
mutual
theorem PV.same_eq : ∀ (a b : PV), PV.same a b = true → a = b := by
  intro a b h
  cases a <;> cases b <;> first | rfl | (simp [PV.same] at h; done) | skip
  · simp [PV.same] at h; simp [h]
  · simp [PV.same] at h; simp [h]
  · rename_i s s'
    simp [PV.same] at h
    cases s; cases s'
    simp at h
    rw [h]
  · simp [PV.same] at h; simp [h]
  · rename_i r r'; simp [PV.same] at h; rw [sameRows_eq r r' h]
theorem sameRow_eq : ∀ (a b : List PV), sameRow a b = true → a = b := by
  intro a b h
  cases a <;> cases b <;> first | rfl | (simp [sameRow] at h; done) | skip
  rename_i x l y m
  simp [sameRow] at h
  rw [PV.same_eq x y h.1, sameRow_eq l m h.2]
theorem sameRows_eq : ∀ (a b : List (List PV)), sameRows a b = true → a = b := by
  intro a b h
  cases a <;> cases b <;> first | rfl | (simp [sameRows] at h; done) | skip
  rename_i x l y m
  simp [sameRows] at h
  rw [sameRow_eq x y h.1, sameRows_eq l m h.2]
end
theorem pvCells_eq : ∀ {l : List V} {r : List PV}, pvCells l = some r → l = r.map .p := by
  intro l
  induction l with
  | nil => intro r h; cases h; rfl
  | cons x l ih =>
    intro r h
    cases x <;> simp only [pvCells] at h <;> first | cases h | skip
    obtain ⟨r', h1, rfl⟩ := Option.map_eq_some_iff.1 h
    rw [ih h1]; rfl
theorem samePL_eq : ∀ (a b : List V), samePL a b = true → a = b := by
  intro a
  induction a with
  | nil => intro b h; cases b <;> first | rfl | (simp [samePL] at h)
  | cons x l ih =>
    intro b h
    cases b with
    | nil => cases x <;> simp [samePL] at h
    | cons y m =>
      cases x <;> cases y <;> first | (simp [samePL] at h; done) | skip
      · simp [samePL] at h; rw [PV.same_eq _ _ h.1, ih _ h.2]
      · simp only [samePL, Bool.and_eq_true] at h
        obtain ⟨h1, h2⟩ := h
        rw [ih _ h2]
        split at h1
        · rename_i p q hp hq
          rw [pvCells_eq hp, pvCells_eq hq, sameRow_eq _ _ h1]
        · cases h1
theorem beq_eq {a b : Nat} (h : Nat.beq a b = true) : a = b := Nat.eq_of_beq_eq_true h
theorem sameSK_eq : ∀ (a b : SK), sameSK a b = true → a = b := by
  intro a b h
  cases a <;> cases b <;> first | rfl | (simp [sameSK] at h; done) | skip
  simp only [sameSK, Bool.and_eq_true] at h
  rw [beq_eq h.1.1, beq_eq h.1.2, beq_eq h.2]
mutual
theorem sameV_eq : ∀ (a b : V), sameV a b = true → a = b := by
  intro a b h
  cases a with
  | p x => cases b <;> first | (simp [sameV] at h; done) | skip
           simp only [sameV] at h; rw [PV.same_eq _ _ h]
  | sl r k => cases b <;> first | (simp [sameV] at h; done) | skip
              simp only [sameV, Bool.and_eq_true] at h; rw [sameVR_eq _ _ h.1, sameSK_eq _ _ h.2]
  | arr => cases b <;> first | (simp [sameV] at h; done) | skip
           simp only [sameV, Bool.and_eq_true] at h
           obtain ⟨⟨⟨⟨h1, h2⟩, h3⟩, h4⟩, h5⟩ := h
           rw [beq_eq h1, beq_eq h2, beq_eq h3, beq_eq h4, beq_eq h5]
  | ptr => cases b <;> first | (simp [sameV] at h; done) | skip
           simp only [sameV, Bool.and_eq_true] at h; rw [beq_eq h.1, beq_eq h.2]
  | ref r => cases b <;> first | (simp [sameV] at h; done) | skip
             simp only [sameV] at h; rw [sameVs_eq _ _ h]
  | loc => cases b <;> first | (simp [sameV] at h; done) | skip
           simp only [sameV, Bool.and_eq_true] at h; rw [beq_eq h.1.1, beq_eq h.1.2, beq_eq h.2]
  | map => cases b <;> first | (simp [sameV] at h; done) | skip
           simp only [sameV] at h; rw [beq_eq h]
  | fn f cs => cases f <;> cases b <;> first | (simp [sameV] at h; done) | skip
               rename_i f g cs'
               cases g <;> first | (simp [sameV] at h; done) | skip
               simp only [sameV, Bool.and_eq_true] at h; rw [beq_eq h.1, sameVs_eq _ _ h.2]
  | agg r => cases b <;> first | (simp [sameV] at h; done) | skip
             simp only [sameV] at h; rw [sameVs_eq _ _ h]
  | tup r => cases b <;> first | (simp [sameV] at h; done) | skip
             simp only [sameV] at h; rw [sameVs_eq _ _ h]
  | undef => cases b <;> first | rfl | (simp [sameV] at h; done)
theorem sameVs_eq : ∀ (a b : List V), sameVs a b = true → a = b := by
  intro a b h
  cases a <;> cases b <;> first | rfl | (simp [sameVs] at h; done) | skip
  rename_i x l y m
  simp [sameVs] at h
  rw [sameV_eq x y h.1, sameVs_eq l m h.2]
theorem sameVR_eq : ∀ (a b : List (List V)), sameVR a b = true → a = b := by
  intro a b h
  cases a <;> cases b <;> first | rfl | (simp [sameVR] at h; done) | skip
  rename_i x l y m
  simp [sameVR] at h
  rw [sameVs_eq x y h.1, sameVR_eq l m h.2]
end
theorem sameNs_eq : ∀ (a b : List Nat), sameNs a b = true → a = b := by
  intro a
  induction a with
  | nil => intro b h; cases b <;> first | rfl | (simp [sameNs] at h)
  | cons x l ih =>
    intro b h
    cases b with
    | nil => simp [sameNs] at h
    | cons y m => simp only [sameNs, Bool.and_eq_true] at h; rw [beq_eq h.1, ih _ h.2]
theorem sameEs_eq : ∀ (a b : List (PV × V × Nat)), sameEs a b = true → a = b := by
  intro a
  induction a with
  | nil => intro b h; cases b <;> first | rfl | (simp [sameEs] at h)
  | cons x l ih =>
    intro b h
    obtain ⟨a, b', c⟩ := x
    cases b with
    | nil => simp [sameEs] at h
    | cons y m =>
      obtain ⟨d, e, f⟩ := y
      simp only [sameEs, Bool.and_eq_true] at h
      rw [PV.same_eq _ _ h.1.1.1, sameV_eq _ _ h.1.1.2, beq_eq h.1.2, ih _ h.2]
theorem sameOb_eq (a b : Ob) (h : sameOb a b = true) : a = b := by
  cases a <;> cases b <;> first | rfl | (simp [sameOb] at h; done) | skip
  · simp only [sameOb] at h; rw [sameVs_eq _ _ h]
  · simp only [sameOb, Bool.and_eq_true] at h; rw [sameEs_eq _ _ h.1, beq_eq h.2]
  · rename_i o _ _ _ o' _ _ _
    simp only [sameOb, Bool.and_eq_true] at h
    have : o = o' := by
      cases o <;> cases o' <;> first | rfl | (simp [sameON] at h; done) | skip
      simp only [sameON] at h; rw [beq_eq h.1.1.1]
    rw [this, beq_eq h.1.1.2, sameNs_eq _ _ h.1.2, beq_eq h.2]
theorem sameObs_eq : ∀ (a b : List Ob), sameObs a b = true → a = b := by
  intro a
  induction a with
  | nil => intro b h; cases b <;> first | rfl | (simp [sameObs] at h)
  | cons x l ih =>
    intro b h
    cases b with
    | nil => simp [sameObs] at h
    | cons y m => simp only [sameObs, Bool.and_eq_true] at h; rw [sameOb_eq _ _ h.1, ih _ h.2]
theorem sameG_eq (a b : G) (h : sameG a b = true) : a = b := by
  cases a; cases b
  simp only [sameG, Bool.and_eq_true] at h
  rw [sameObs_eq _ _ h.1.1.1, sameNs_eq _ _ h.1.1.2, beq_eq h.1.2, beq_eq h.2]
theorem sameTr_eq : ∀ (a b : Tr), sameTr a b = true → a = b := by
  intro a
  induction a with
  | nil => intro b h; cases b <;> first | rfl | (simp [sameTr] at h)
  | node v l r ih1 ih2 =>
    intro b h
    cases b with
    | nil => simp [sameTr] at h
    | node v' l' r' => simp only [sameTr, Bool.and_eq_true] at h; rw [sameV_eq _ _ h.1.1, ih1 _ h.1.2, ih2 _ h.2]
theorem sameRg_eq : ∀ (a b : List (Nat × (Nat × List V))), sameRg a b = true → a = b := by
  intro a
  induction a with
  | nil => intro b h; cases b <;> first | rfl | (simp [sameRg] at h)
  | cons x l ih =>
    intro b h
    obtain ⟨a, b', c⟩ := x
    cases b with
    | nil => simp [sameRg] at h
    | cons y m =>
      obtain ⟨d, e, f⟩ := y
      simp only [sameRg, Bool.and_eq_true] at h
      rw [beq_eq h.1.1.1, beq_eq h.1.1.2, sameVs_eq _ _ h.1.2, ih _ h.2]
theorem sameFr_eq (a b : Fr) (h : sameFr a b = true) : a = b := by
  cases a; cases b
  simp only [sameFr, Bool.and_eq_true] at h
  rw [sameTr_eq _ _ h.1.1, sameRg_eq _ _ h.1.2, sameG_eq _ _ h.2]
theorem mergeFr_mem : ∀ (a b : List Fr) (x : Fr), x ∈ a ∨ x ∈ b → x ∈ mergeFr a b := by
  intro a
  induction a with
  | nil => intro b x h; rcases h with h | h; cases h; exact h
  | cons y l ih =>
    intro b x h
    unfold mergeFr
    cases hb : b.any (sameFr y) with
    | true =>
      simp only [cond_true]
      obtain ⟨z, hz, he⟩ := List.any_eq_true.1 hb
      have := sameFr_eq _ _ he
      subst this
      rcases h with h | h
      · rcases List.mem_cons.1 h with rfl | h
        · exact ih b x (Or.inr hz)
        · exact ih b x (Or.inl h)
      · exact ih b x (Or.inr h)
    | false =>
      simp only [cond_false]
      rcases h with h | h
      · rcases List.mem_cons.1 h with rfl | h
        · simp
        · exact List.mem_cons_of_mem _ (ih b x (Or.inl h))
      · exact List.mem_cons_of_mem _ (ih b x (Or.inr h))
theorem addOne_mem {l : List (List V)} {v x : List V} (h : x = v ∨ x ∈ l) : x ∈ addOne l v := by
  unfold addOne
  split
  · rename_i hany
    obtain ⟨y, hy, he⟩ := List.any_eq_true.1 hany
    rcases h with rfl | h
    · rw [samePL_eq _ _ he]; exact hy
    · exact h
  · rcases h with rfl | h
    · simp
    · exact List.mem_cons_of_mem _ h
theorem bindO_mem {α β : Type} {f : α → Option (List β)} : ∀ {l : List α} {r : List β}, bindO l f = some r → ∀ a, a ∈ l → ∃ ra, f a = some ra ∧ ∀ b, b ∈ ra → b ∈ r := by
  intro l
  induction l with
  | nil => intro r _ a ha; cases ha
  | cons x l ih =>
    intro r h a ha
    cases l with
    | nil =>
      rcases List.mem_cons.1 ha with rfl | ha
      · exact ⟨r, h, fun _ hb => hb⟩
      · cases ha
    | cons y l =>
      simp only [bindO] at h
      cases hx : f x with
      | none => rw [hx] at h; cases h
      | some rx =>
        rw [hx] at h
        simp only at h
        cases hl : bindO (y :: l) f with
        | none => rw [hl] at h; cases h
        | some rl =>
          rw [hl] at h
          cases h
          rcases List.mem_cons.1 ha with rfl | ha
          · exact ⟨rx, hx, fun b hb => List.mem_append_left _ hb⟩
          · obtain ⟨ra, h1, h2⟩ := ih hl a ha
            exact ⟨ra, h1, fun b hb => List.mem_append_right _ (h2 b hb)⟩
end Go.Vm
set_option linter.unusedVariables false
namespace Go.Vm
open Go
section
variable {E : Env} {nt : Nat} {esc : Nat → Bool}
theorem put_fr {x y : Fr} {dst : Option Tmp} {v : V} (h : x.put nt dst v = some y) : (x.st nt esc).put dst v = some (y.st nt esc) := by
  unfold Fr.put at h
  cases dst with
  | none => cases h; rfl
  | some d =>
    simp only at h
    cases hc : Nat.blt d nt && Nat.blt d 4000 with
    | false => rw [hc] at h; cases h
    | true =>
      rw [hc] at h
      cases h
      simp only [Bool.and_eq_true] at hc
      have h1 : d < nt := Nat.le_of_ble_eq_true hc.1
      have h2 : @LT.lt Nat _ d 4000 := Nat.le_of_ble_eq_true hc.2
      unfold St.put
      simp only
      rw [if_pos (show d < (x.st nt esc).nt from h1)]
      simp only [Fr.st]
      congr 2
      funext t
      rw [Tr.get_set _ _ _ _ _ (Nat.lt_of_le_of_lt h2 (by decide))]
      rfl
theorem stepV_rgKey {s s1 : St} {o : Oper} {v : V} (h : stepV E s o = some (v, s1)) : ∀ t, rgKey E s o ≠ some t → s1.rg t = s.rg t := by
  have nv : ∀ {dst cs v s1}, s.newVar dst cs = some (v, s1) → ∀ t, dst ≠ some t → s1.rg t = s.rg t := by
    intro dst cs v s1 h t ht
    unfold St.newVar at h
    split at h
    · rename_i d
      split at h
      · split at h
        · cases h; rfl
        · cases h
          simp only [upd]
          rw [if_neg (fun e => ht (by rw [e]))]
      · cases h
    · cases h
  have ap : ∀ {dst e x y v s1}, s.append E dst e x y = some (v, s1) → s1.rg = s.rg := by
    intro dst e x y v s1 h
    unfold St.append at h
    (repeat' (split at h)) <;> first | (cases h; rfl) | cases h
  obtain ⟨dst, op, type, pos, after, guard⟩ := o
  intro t ht
  cases op with
  | alloc ty => simp only [stepV] at h; split at h; exact nv h t ht; cases h
  | box ty x => simp only [stepV] at h; split at h; exact nv h t ht; cases h
  | store ty a x =>
    simp only [stepV] at h
    split at h
    · rename_i p w n hp hx hn
      split at h
      · obtain ⟨y, hy, e⟩ := Option.map_eq_some_iff.1 h
        cases e
        unfold St.storeCells at hy
        split at hy
        · split at hy
          · rename_i t' g off
            split at hy
            · split at hy
              · obtain ⟨cs, _, rfl⟩ := Option.map_eq_some_iff.1 hy
                simp only [upd]
                rw [if_neg]
                intro e
                apply ht
                simp only [rgKey, hp, e]
              · cases hy
            · cases hy
          · split at hy
            · obtain ⟨cs, _, rfl⟩ := Option.map_eq_some_iff.1 hy; rfl
            · cases hy
          · cases hy
        · cases hy
      · cases h
    · cases h
  | call c =>
    obtain ⟨callee, args, argTypes⟩ := c
    cases callee with
    | builtin b =>
      cases b <;> simp only [stepV] at h <;> first | cases h | skip
      case append => split at h <;> first | (split at h <;> first | rw [ap h] | cases h) | cases h
      all_goals (repeat' (split at h)) <;> first | (obtain ⟨x, hx, e⟩ := Option.map_eq_some_iff.1 h; cases e; rfl) | cases h
    | _ => simp [stepV] at h
  | buildSlice ty len parts =>
    simp only [stepV] at h
    split at h
    · split at h
      · split at h
        · cases h
        · obtain ⟨x, hx, e⟩ := Option.map_eq_some_iff.1 h
          split at e <;> (cases e; rfl)
      · cases h
    · cases h
  | makeFunc f first caps => cases f <;> (simp only [stepV] at h; (repeat' (split at h)) <;> first | (obtain ⟨x, hx, e⟩ := Option.map_eq_some_iff.1 h; cases e; rfl) | (cases h; rfl) | cases h)
  | makeMap ty r => cases r <;> (simp only [stepV] at h; (repeat' (split at h)) <;> first | (obtain ⟨x, hx, e⟩ := Option.map_eq_some_iff.1 h; cases e; rfl) | (cases h; rfl) | cases h)
  | slice ty x lo hi mx => cases mx <;> (simp only [stepV] at h; (repeat' (split at h)) <;> first | (obtain ⟨x, hx, e⟩ := Option.map_eq_some_iff.1 h; cases e; rfl) | (cases h; rfl) | cases h)
  | _ => (simp only [stepV] at h; (repeat' (split at h)) <;> first | (obtain ⟨x, hx, e⟩ := Option.map_eq_some_iff.1 h; cases e; rfl) | (cases h; rfl) | cases h)
theorem st_after {x : Fr} {s1 : St} {o : Oper} {v : V} {rg : List (Nat × (Nat × List V))} (h : stepV E (x.st nt esc) o = some (v, s1)) (hr : rgAfter x.rg (rgKey E (x.st nt esc) o) s1 = some rg) :
    (Fr.mk x.tr rg s1.g).st nt esc = s1 := by
  obtain ⟨h1, h2, h3⟩ := stepV_tm h
  have hk := stepV_rgKey h
  have hrg : (fun t => rgGet rg t) = s1.rg := by
    funext t
    unfold rgAfter at hr
    split at hr
    · rename_i hn
      cases hr
      rw [hk t (by rw [hn]; simp)]; rfl
    · rename_i t' ht'
      split at hr
      · rename_i y hy
        cases hr
        rw [rgGet_set]
        by_cases htt : t = t'
        · subst htt; simp [hy]
        · rw [if_neg htt, hk t (by rw [ht']; intro e; cases e; exact htt rfl)]; rfl
      · rename_i hn
        split at hr
        · rename_i hl
          cases hr
          by_cases htt : t = t'
          · subst htt; rw [hl, hn]
          · rw [hk t (by rw [ht']; intro e; cases e; exact htt rfl)]; rfl
        · cases hr
  cases s1
  simp only [Fr.st] at *
  simp only [St.mk.injEq]
  exact ⟨h2.symm, h1.symm, hrg, h3.symm, trivial⟩
theorem args_get : ∀ (l : List V) (n : Nat) (t : Tr) (j : Nat), n + l.length ≤ 4000 → (Tr.args n t l).get j = if n ≤ j ∧ j < n + l.length then l.getD (j - n) .undef else t.get j := by
  intro l
  induction l with
  | nil => intro n t j _; simp only [Tr.args, List.length_nil]; rw [if_neg (by omega)]
  | cons v l ih =>
    intro n t j h
    simp only [List.length_cons] at h
    simp only [Tr.args]
    rw [ih (n + 1) _ j (by omega), Tr.get_set _ _ _ _ _ (by omega)]
    by_cases h1 : n + 1 ≤ j ∧ j < n + 1 + l.length
    · rw [if_pos h1, if_pos (by simp only [List.length_cons]; omega)]
      obtain ⟨k, rfl⟩ : ∃ k, j = n + (k + 1) := ⟨j - n - 1, by omega⟩
      rw [show n + (k + 1) - n = k + 1 by omega, show n + (k + 1) - (n + 1) = k by omega]
      rfl
    · rw [if_neg h1]
      by_cases h2 : j = n
      · subst h2
        rw [if_pos rfl, if_pos (by simp only [List.length_cons]; omega)]
        simp
      · rw [if_neg h2, if_neg (by simp only [List.length_cons]; omega)]
theorem enter_st {fn : Func} {f : FuncId} {args : List V} {g : G} (h : args.length ≤ 4000) : (enterX args g).st fn.ntmps (E.esc f) = enter E fn f args g := by
  unfold enterX enter Fr.st
  simp only [St.mk.injEq]
  refine ⟨trivial, ?_, ?_, trivial, trivial⟩
  · funext t
    rw [args_get _ _ _ _ (by omega)]
    simp only [Nat.zero_le, true_and, Nat.zero_add, Nat.sub_zero]
    split
    · rfl
    · rename_i hlt
      rw [List.getD_eq_getElem?_getD, List.getElem?_eq_none (by omega)]
      cases t <;> rfl
  · funext t; rfl
theorem cleanAll_ok {g : G} {rs : List ResultVar} : ∀ {l : List (X × Fr)} {out : List (List V)}, cleanAll E nt esc g rs l = some out → ∀ r, r ∈ l → (r.1 = .normal ∨ r.1 = .ret) ∧
    ∃ vs ws, resOf E (r.2.st nt esc) rs = some vs ∧ sealL r.2.g vs = some ws ∧ r.2.g.wo = g.objs.length ∧ r.2.g.wt = g.toks.length ∧ ws ∈ out := by
  intro l
  induction l with
  | nil => intro out _ r hr; cases hr
  | cons a l ih =>
    intro out h r hr
    obtain ⟨e, x⟩ := a
    have main : clean1 E nt esc g rs x (cleanAll E nt esc g rs l) = some out ∧ (e = .normal ∨ e = .ret) := by
      cases e with
      | exit i => simp [cleanAll] at h
      | normal => exact ⟨by simpa only [cleanAll] using h, Or.inl rfl⟩
      | ret => exact ⟨by simpa only [cleanAll] using h, Or.inr rfl⟩
    obtain ⟨m1, m2⟩ := main
    unfold clean1 at m1
    split at m1
    · cases m1
    · rename_i vs hvs
      split at m1
      · cases m1
      · rename_i ws hws
        cases hc : Nat.beq x.g.wo g.objs.length && Nat.beq x.g.wt g.toks.length with
        | false => rw [hc] at m1; cases m1
        | true =>
          rw [hc] at m1
          simp only [cond_true] at m1
          simp only [Bool.and_eq_true] at hc
          have hh : ∃ out', cleanAll E nt esc g rs l = some out' ∧ ws ∈ out ∧ ∀ z, z ∈ out' → z ∈ out := by
            split at m1
            · cases m1
            · rename_i hq; cases m1; exact ⟨_, hq, by simp, fun z hz => by cases hz⟩
            · rename_i hq; cases m1; exact ⟨_, hq, addOne_mem (Or.inl rfl), fun z hz => addOne_mem (Or.inr hz)⟩
          obtain ⟨out', q1, q2, q3⟩ := hh
          rcases List.mem_cons.1 hr with rfl | hr
          · exact ⟨m2, vs, ws, hvs, hws, beq_eq hc.1, beq_eq hc.2, q2⟩
          · obtain ⟨p1, vs', ws', p2, p3, p4, p5, p6⟩ := ih q1 r hr
            exact ⟨p1, vs', ws', p2, p3, p4, p5, q3 _ p6⟩
theorem keepAll_ok {g : G} {rs : List ResultVar} : ∀ {l : List (X × Fr)} {out : List (List V × G)}, keepAll E nt esc g rs l = some out → ∀ r, r ∈ l → (r.1 = .normal ∨ r.1 = .ret) ∧
    ∃ vs, resOf E (r.2.st nt esc) rs = some vs ∧ (vs, { r.2.g with wo := min g.wo r.2.g.wo, wt := min g.wt r.2.g.wt }) ∈ out := by
  intro l
  induction l with
  | nil => intro out _ r hr; cases hr
  | cons a l ih =>
    intro out h r hr
    obtain ⟨e, x⟩ := a
    have main : keep1 E nt esc g rs x (keepAll E nt esc g rs l) = some out ∧ (e = .normal ∨ e = .ret) := by
      cases e with
      | exit i => simp [keepAll] at h
      | normal => exact ⟨by simpa only [keepAll] using h, Or.inl rfl⟩
      | ret => exact ⟨by simpa only [keepAll] using h, Or.inr rfl⟩
    obtain ⟨m1, m2⟩ := main
    unfold keep1 at m1
    split at m1
    · cases m1
    · rename_i vs hvs
      split at m1
      · cases m1
      · rename_i l' hl
        cases m1
        rcases List.mem_cons.1 hr with rfl | hr
        · exact ⟨m2, vs, hvs, by simp⟩
        · obtain ⟨p1, vs', p2, p3⟩ := ih hl r hr
          exact ⟨p1, vs', p2, List.mem_cons_of_mem _ p3⟩
theorem put1_ok {x : Fr} {dst : Option Tmp} : ∀ {l : List (List V)} {ys : List Fr}, put1 nt x dst l = some ys → ∀ vs, vs ∈ l → ∃ y, x.put nt dst (pack vs) = some y ∧ y ∈ ys := by
  intro l
  induction l with
  | nil => intro ys _ vs h; cases h
  | cons a l ih =>
    intro ys h vs hv
    unfold put1 at h
    split at h
    · rename_i y ys' h1 h2
      cases h
      rcases List.mem_cons.1 hv with rfl | hv
      · exact ⟨y, h1, by simp⟩
      · obtain ⟨z, q1, q2⟩ := ih h2 vs hv; exact ⟨z, q1, List.mem_cons_of_mem _ q2⟩
    · cases h
theorem put2_ok {x : Fr} {dst : Option Tmp} : ∀ {l : List (List V × G)} {ys : List Fr}, put2 nt x dst l = some ys → ∀ p, p ∈ l → ∃ y, Fr.put nt { x with g := p.2 } dst (pack p.1) = some y ∧ y ∈ ys := by
  intro l
  induction l with
  | nil => intro ys _ vs h; cases h
  | cons a l ih =>
    intro ys h vs hv
    obtain ⟨a1, a2⟩ := a
    unfold put2 at h
    split at h
    · rename_i y ys' h1 h2
      cases h
      rcases List.mem_cons.1 hv with rfl | hv
      · exact ⟨y, h1, by simp⟩
      · obtain ⟨z, q1, q2⟩ := ih h2 vs hv; exact ⟨z, q1, List.mem_cons_of_mem _ q2⟩
    · cases h
theorem nextAll_ok {x : Fr} {dst : Option Tmp} {it : V} : ∀ {l : List (Option (PV × V × Nat))} {ys : List Fr}, nextAll nt x dst it l = some ys → ∀ c, c ∈ l → ∃ v g y, afterNext x.g it c = some (v, g) ∧ Fr.put nt { x with g := g } dst v = some y ∧ y ∈ ys := by
  intro l
  induction l with
  | nil => intro ys _ vs h; cases h
  | cons a l ih =>
    intro ys h c hc
    unfold nextAll at h
    split at h
    · cases h
    · rename_i v g ha
      split at h
      · rename_i y ys' h1 h2
        cases h
        rcases List.mem_cons.1 hc with rfl | hc
        · exact ⟨v, g, y, ha, h1, by simp⟩
        · obtain ⟨v', g', z, q1, q2, q3⟩ := ih h2 c hc; exact ⟨v', g', z, q1, q2, List.mem_cons_of_mem _ q3⟩
      · cases h
theorem EvM.mono {cl : Nat → Bool} {ops : Array Oper} {tab : List Nat} {Q Q' : St → Prop} (hq : ∀ s, Q s → Q' s) {n mask : Nat} {s : St} (h : EvM E cl esc ops tab Q n mask s) : EvM E cl esc ops tab Q' n mask s := by
  induction h with
  | done a b => exact .done a (hq _ b)
  | one st a b c d _ ih => exact .one st a b c d ih
  | all f a b _ ih => exact .all f a b ih
end
def OutOk (out : Out) (g : G) (v : V) (g' : G) : Prop :=
  match out with
  | .clean vs => g' = g ∧ ∃ ws, ws ∈ vs ∧ v = pack ws
  | .keep l => ∃ p, p ∈ l ∧ v = pack p.1 ∧ g' = p.2
section
variable {C : Cfg}
structure Told (C : Cfg) (n : Nat) : Prop where
  c : ∀ F nt c x outs, runC C n F nt c x = some outs → Ev C.E (.code c (x.st nt (C.E.esc F)) fun e s => ∃ r, r ∈ outs ∧ r.1 = e ∧ r.2.st nt (C.E.esc F) = s)
  o : ∀ F nt ops l x outs, runO C n F nt ops l x = some outs → Ev C.E (.ops ops l (x.st nt (C.E.esc F)) fun s => ∃ y, y ∈ outs ∧ y.st nt (C.E.esc F) = s)
  t : ∀ F nt ops tab m mask x outs, runT C n F nt ops tab m mask x = some outs → EvM C.E (C.cl ops) (C.E.esc F) ops tab (fun s => ∃ y, y ∈ outs ∧ y.st nt (C.E.esc F) = s) m mask (x.st nt (C.E.esc F))
  p : ∀ F nt ops i o x y, ops[i]? = some o → runP C n F nt ops i o x = some y → Do C.E (C.cl ops) ops i (x.st nt (C.E.esc F)) (y.st nt (C.E.esc F))
  a : ∀ F nt ops tab m mask l x outs, runA C n F nt ops tab m mask l x = some outs → ∀ i, i ∈ l → ∃ y : Fr, Do C.E (C.cl ops) ops i (x.st nt (C.E.esc F)) (y.st nt (C.E.esc F)) ∧
    EvM C.E (C.cl ops) (C.E.esc F) ops tab (fun s => ∃ z, z ∈ outs ∧ z.st nt (C.E.esc F) = s) m (mask ||| 2 ^ i) (y.st nt (C.E.esc F))
  f : ∀ f args g out, runF C n f args g = some out → Ev C.E (.call f args g (OutOk out g))
theorem told (hp : PrimMono C.E) (hm : C.E.P.follows .mixedOrders = true) : ∀ n, Told C n := by
  intro n
  induction n with
  | zero =>
    refine ⟨?_, ?_, ?_, ?_, ?_, ?_⟩
    · intro F nt c x outs h; simp [runC] at h
    · intro F nt ops l x outs h; simp [runO] at h
    · intro F nt ops tab m mask x outs h; simp [runT] at h
    · intro F nt ops i o x y _ h; simp [runP] at h
    · intro F nt ops tab m mask l x outs h; simp [runA] at h
    · intro f args g out h; simp [runF] at h
  | succ n ih =>
    refine ⟨?_, ?_, ?_, ?_, ?_, ?_⟩
    · intro F nt c x outs h
      unfold runC at h
      split at h
      · cases h; exact .skip ⟨(.normal, x), by simp, rfl, rfl⟩
      · cases h; exact .ret ⟨(.ret, x), by simp, rfl, rfl⟩
      · cases h; exact .exit ⟨(.exit _, x), by simp, rfl, rfl⟩
      · rename_i a b
        split at h
        · cases h
        · rename_i l hl
          refine .seq _ (ih.c F nt a x l hl) (fun s' hs => ?_) (fun e s' he hs => ?_)
          · obtain ⟨⟨e, y⟩, hr, rfl, rfl⟩ := hs
            obtain ⟨ra, q1, q2⟩ := bindO_mem h _ hr
            exact (ih.c F nt b y ra q1).monoC hp fun e s' ⟨r, h1, h2⟩ => ⟨r, q2 _ h1, h2⟩
          · obtain ⟨⟨e', y⟩, hr, rfl, rfl⟩ := hs
            obtain ⟨ra, q1, q2⟩ := bindO_mem h _ hr
            cases e' with
            | normal => exact absurd rfl he
            | exit i => cases q1; exact ⟨_, q2 _ (List.mem_singleton.2 rfl), rfl, rfl⟩
            | ret => cases q1; exact ⟨_, q2 _ (List.mem_singleton.2 rfl), rfl, rfl⟩
      · rename_i c a b
        split at h
        · rename_i hc; exact .cond true hc (ih.c F nt a x outs h)
        · rename_i hc; exact .cond false hc (ih.c F nt b x outs h)
        · cases h
      · rename_i id b
        split at h
        · cases h
        · rename_i l hl
          refine .block _ (ih.c F nt b x l hl) (fun s' hs => ?_) (fun id' s' hs => ?_) (fun s' hs => ?_)
          · obtain ⟨⟨e', y⟩, hr, he, rfl⟩ := hs
            simp only at he; subst he
            obtain ⟨ra, q1, q2⟩ := bindO_mem h _ hr
            cases q1; exact ⟨_, q2 _ (List.mem_singleton.2 rfl), rfl, rfl⟩
          · obtain ⟨⟨e', y⟩, hr, he, rfl⟩ := hs
            simp only at he; subst he
            obtain ⟨ra, q1, q2⟩ := bindO_mem h _ hr
            simp only at q1
            split
            · rename_i hid
              subst hid
              rw [Nat.beq_refl] at q1
              cases q1; exact ⟨_, q2 _ (List.mem_singleton.2 rfl), rfl, rfl⟩
            · rename_i hid
              cases hb : Nat.beq id' id with
              | true => exact absurd (beq_eq hb) hid
              | false => rw [hb] at q1; cases q1; exact ⟨_, q2 _ (List.mem_singleton.2 rfl), rfl, rfl⟩
          · obtain ⟨⟨e', y⟩, hr, he, rfl⟩ := hs
            simp only at he; subst he
            obtain ⟨ra, q1, q2⟩ := bindO_mem h _ hr
            cases q1; exact ⟨_, q2 _ (List.mem_singleton.2 rfl), rfl, rfl⟩
      · rename_i b
        split at h
        · cases h
        · rename_i l hl
          refine .loop _ (ih.c F nt b x l hl) (fun s' hs => ?_) (fun e s' he hs => ?_)
          · obtain ⟨⟨e, y⟩, hr, rfl, rfl⟩ := hs
            obtain ⟨ra, q1, q2⟩ := bindO_mem h _ hr
            exact (ih.c F nt _ y ra q1).monoC hp fun e s' ⟨r, h1, h2⟩ => ⟨r, q2 _ h1, h2⟩
          · obtain ⟨⟨e', y⟩, hr, rfl, rfl⟩ := hs
            obtain ⟨ra, q1, q2⟩ := bindO_mem h _ hr
            cases e' with
            | normal => exact absurd rfl he
            | exit i => cases q1; exact ⟨_, q2 _ (List.mem_singleton.2 rfl), rfl, rfl⟩
            | ret => cases q1; exact ⟨_, q2 _ (List.mem_singleton.2 rfl), rfl, rfl⟩
      · rename_i id ops d
        split at h
        · split at h
          · cases h
          · rename_i l hl
            refine .region ((ih.o F nt ops _ x l hl).monoO hp fun s ⟨y, hy, hs⟩ => ?_)
            obtain ⟨ra, q1, q2⟩ := bindO_mem h _ hy
            cases q1; exact ⟨_, q2 _ (List.mem_singleton.2 rfl), rfl, hs⟩
        · cases ht : tabOk ops (aheads ops) with
          | false => rw [ht] at h; cases h
          | true =>
            rw [ht] at h
            simp only [cond_true] at h
            split at h
            · cases h
            · rename_i l hl
              refine EvM.sound (cl := C.cl ops) hm ht (EvM.mono (fun s hs => ?_) (ih.t F nt ops _ _ _ x l hl))
              obtain ⟨y, hy, hs⟩ := hs
              obtain ⟨ra, q1, q2⟩ := bindO_mem h _ hy
              cases q1; exact ⟨_, q2 _ (List.mem_singleton.2 rfl), rfl, hs⟩
      · cases h
    · intro F nt ops l x outs h
      unfold runO at h
      split at h
      · cases h; exact .nil ⟨x, by simp, rfl⟩
      · rename_i i l
        split at h
        · cases h
        · rename_i o ho
          split at h
          · cases h
          · rename_i hw
            split at h
            · cases h
            · rename_i y hy
              exact .skipOp ho hw (put_fr hy) (ih.o F nt ops l y outs h)
          · rename_i hw
            split at h
            · rename_i v s hs
              rw [fV_eq, fG_eq] at h
              split at h
              · cases h
              · rename_i rg hrg
                split at h
                · cases h
                · rename_i y hy
                  refine .step ho hw hs (s' := y.st nt (C.E.esc F)) ?_ (ih.o F nt ops l y outs h)
                  rw [← st_after hs hrg]
                  exact put_fr hy
            · split at h
              · rename_i f args hcall
                split at h
                · cases h
                · rename_i out hout
                  split at h
                  · cases h
                  · rename_i ys hys
                    have hsf : ∀ v g, OutOk out x.g v g → ∃ y, y ∈ ys ∧ Fr.put nt { x with g := g } o.dst v = some y := by
                      intro v g hok
                      cases out with
                      | clean vs =>
                        obtain ⟨rfl, ws, h1, rfl⟩ := hok
                        obtain ⟨y, q1, q2⟩ := put1_ok hys ws h1
                        exact ⟨y, q2, q1⟩
                      | keep l' =>
                        obtain ⟨p, h1, rfl, rfl⟩ := hok
                        obtain ⟨y, q1, q2⟩ := put2_ok hys p h1
                        exact ⟨y, q2, q1⟩
                    refine .callOp _ (fun v g => match Fr.put nt { x with g := g } o.dst v with
                      | some y => y.st nt (C.E.esc F)
                      | none => x.st nt (C.E.esc F)) ho hw hcall (ih.f f args x.g out hout) (fun v g hok => ?_) (fun v g hok => ?_)
                    · obtain ⟨y, h1, h2⟩ := hsf v g hok
                      rw [h2]
                      exact put_fr (esc := C.E.esc F) h2
                    · obtain ⟨y, h1, h2⟩ := hsf v g hok
                      rw [h2]
                      obtain ⟨ra, q1, q2⟩ := bindO_mem h _ h1
                      exact (ih.o F nt ops l y ra q1).monoO hp fun s ⟨z, hz, hs⟩ => ⟨z, q2 _ hz, hs⟩
              · split at h
                · rename_i it hop
                  split at h
                  · cases h
                  · rename_i w hit
                    split at h
                    · cases h
                    · rename_i cs hcs
                      split at h
                      · cases h
                      · rename_i ys hys
                        refine .next (fun c => match afterNext x.g w c with
                          | some (v, g) => (match Fr.put nt { x with g := g } o.dst v with
                            | some y => y.st nt (C.E.esc F)
                            | none => x.st nt (C.E.esc F))
                          | none => x.st nt (C.E.esc F)) ho hw hop hit hcs (fun c hc => ?_) (fun c hc => ?_)
                        · obtain ⟨v, g, y, q1, q2, q3⟩ := nextAll_ok hys c hc
                          refine ⟨v, g, q1, ?_⟩
                          simp only [q1, q2]
                          exact put_fr (esc := C.E.esc F) q2
                        · obtain ⟨v, g, y, q1, q2, q3⟩ := nextAll_ok hys c hc
                          simp only [q1, q2]
                          obtain ⟨ra, p1, p2⟩ := bindO_mem h _ q3
                          exact (ih.o F nt ops l y ra p1).monoO hp fun s ⟨z, hz, hs⟩ => ⟨z, p2 _ hz, hs⟩
                · cases h
    · intro F nt ops tab m mask x outs h
      unfold runT at h
      split at h
      · rename_i hr; cases h; exact .done hr ⟨x, by simp, rfl⟩
      · rename_i r rs hr
        split at h
        · cases h
        · rename_i m
          have hall : runA C n F nt ops tab m mask (r :: rs) x = some outs → EvM C.E (C.cl ops) (C.E.esc F) ops tab (fun s => ∃ y, y ∈ outs ∧ y.st nt (C.E.esc F) = s) (m + 1) mask (x.st nt (C.E.esc F)) := by
            intro h
            have hA := ih.a F nt ops tab m mask (r :: rs) x outs h
            refine .all (fun i => if hi : i ∈ r :: rs then (hA i hi).choose.st nt (C.E.esc F) else x.st nt (C.E.esc F)) (by rw [hr]; simp) (fun i hi => ?_) (fun i hi => ?_)
            · rw [hr] at hi
              simp only [hi, dif_pos]
              exact (hA i hi).choose_spec.1
            · rw [hr] at hi
              simp only [hi, dif_pos]
              exact (hA i hi).choose_spec.2
          split at h
          · rename_i i ad hf
            split at h
            · cases h
            · rename_i o ho
              cases had : addrsOk C.E ops (x.st nt (C.E.esc F)) o ad with
              | true =>
                rw [had] at h
                simp only [cond_true] at h
                split at h
                · cases h
                · rename_i y hy
                  exact .one false (by rw [hr]; exact hf) ho had (ih.p F nt ops i o x y ho hy) (ih.t F nt ops tab m _ y outs h)
              | false =>
                rw [had] at h
                simp only [cond_false] at h
                split at h
                · rename_i i ad hf
                  split at h
                  · cases h
                  · rename_i o ho
                    cases had : addrsOk C.E ops (x.st nt (C.E.esc F)) o ad with
                    | true =>
                      rw [had] at h
                      simp only [cond_true] at h
                      split at h
                      · cases h
                      · rename_i y hy
                        exact .one true (by rw [hr]; exact hf) ho had (ih.p F nt ops i o x y ho hy) (ih.t F nt ops tab m _ y outs h)
                    | false => rw [had] at h; cases h
                · exact hall h
          · exact hall h
    · intro F nt ops i o x y ho h
      unfold runP at h
      split at h
      · cases h
      · rename_i hw; exact .skip ho hw (put_fr h)
      · rename_i hw
        split at h
        · rename_i v s hs
          rw [fV_eq, fG_eq] at h
          split at h
          · cases h
          · rename_i rg hrg
            refine .step ho hw hs ?_
            rw [← st_after hs hrg]
            exact put_fr h
        · split at h
          · rename_i f args hcall
            split at h
            · rename_i vs hout
              refine .call (v := pack vs) (g := x.g) ho hw hcall ((ih.f f args x.g _ hout).monoF hp fun v g' hok => ?_) (fun _ => rfl) (put_fr h)
              obtain ⟨rfl, ws, h1, rfl⟩ := hok
              simp at h1; subst h1; exact ⟨rfl, rfl⟩
            · rename_i vs g hout
              cases hcl : C.cl ops i with
              | true => rw [hcl] at h; cases h
              | false =>
                rw [hcl] at h
                simp only [cond_false] at h
                refine .call (v := pack vs) (g := g) ho hw hcall ((ih.f f args x.g _ hout).monoF hp fun v g' hok => ?_) (fun e => by rw [hcl] at e; cases e) (put_fr (esc := C.E.esc F) h)
                obtain ⟨p, h1, rfl, rfl⟩ := hok
                simp at h1; subst h1; exact ⟨rfl, rfl⟩
            · cases h
          · cases h
    · intro F nt ops tab m mask l x outs h i hi
      unfold runA at h
      split at h
      · cases hi
      · rename_i i' l
        split at h
        · cases h
        · rename_i o ho
          split at h
          · cases h
          · rename_i y hy
            split at h
            · cases h
            · rename_i a ha
              split at h
              · cases h
              · rename_i b hb
                cases h
                rcases List.mem_cons.1 hi with rfl | hi
                · exact ⟨y, ih.p F nt ops _ o x y ho hy, EvM.mono (fun s ⟨z, hz, hs⟩ => ⟨z, mergeFr_mem _ _ _ (Or.inl hz), hs⟩) (ih.t F nt ops tab m _ y a ha)⟩
                · obtain ⟨y', q1, q2⟩ := ih.a F nt ops tab m mask l x b hb i hi
                  exact ⟨y', q1, EvM.mono (fun s ⟨z, hz, hs⟩ => ⟨z, mergeFr_mem _ _ _ (Or.inr hz), hs⟩) q2⟩
    · intro f args g out h
      unfold runF at h
      split at h
      · cases h
      · rename_i fn hfn
        split at h
        · cases h
        · rename_i body hbody
          cases hc : Nat.ble args.length fn.ntmps && Nat.blt args.length 4000 with
          | false => rw [hc] at h; cases h
          | true =>
            rw [hc] at h
            simp only [cond_true] at h
            simp only [Bool.and_eq_true] at hc
            have h1 : args.length ≤ fn.ntmps := Nat.le_of_ble_eq_true hc.1
            have h2 : args.length < 4000 := Nat.le_of_ble_eq_true hc.2
            split at h
            · cases h
            · rename_i outs houts
              have hev := ih.c f fn.ntmps body _ outs houts
              rw [enter_st (E := C.E) (by omega)] at hev
              split at h
              · rename_i vs hvs
                cases h
                have hvs : cleanAll C.E fn.ntmps (C.E.esc f) g fn.results.toList outs = some vs := by
                  cases hk : C.keeps f with
                  | true => rw [hk] at hvs; cases hvs
                  | false => rw [hk] at hvs; exact hvs
                refine .fnClean _ hfn hbody h1 hev fun e s' hq => ?_
                obtain ⟨r, hr, rfl, rfl⟩ := hq
                obtain ⟨p1, us, ws, p2, p3, p4, p5, p6⟩ := cleanAll_ok hvs r hr
                exact ⟨p1, us, ws, p2, p3, p4, p5, rfl, ws, p6, rfl⟩
              · split at h
                · rename_i l hl
                  cases h
                  refine .fnKeep _ hfn hbody h1 hev fun e s' hq => ?_
                  obtain ⟨r, hr, rfl, rfl⟩ := hq
                  obtain ⟨p1, us, p2, p3⟩ := keepAll_ok hl r hr
                  exact ⟨p1, us, p2, _, p3, rfl, rfl⟩
                · cases h
theorem runF_ok (hp : PrimMono C.E) (hm : C.E.P.follows .mixedOrders = true) {n : Nat} {f : FuncId} {args : List V} {g : G} {out : Out} (h : runF C n f args g = some out) : Ev C.E (.call f args g (OutOk out g)) :=
  (told hp hm n).f f args g out h
end
end Go.Vm
