/- Part 3 of the texts that the claim leans on: a judgement on the program over plain values, its soundness, and contracts of functions. -/
import Derived.Test.YtmknnanbmkmnjaaGreatDoorW2
set_option linter.unusedVariables false
set_option linter.unusedSimpArgs false
set_option linter.unusedVariables false
namespace Go.Vm
open Go
section
variable {E : Env} {v0 : Vw} {w0 : World} {g0 : G} {v : Vw} {lc : Nat → Nat → Option Nat} {s : St} {a : Act} {w : World} {o : Oper}
theorem step_conv (h : Rl E v0 w0 g0 v lc s a w) {src dst : TypeId} {p : Operand} (ho : o.op = .convert src dst p) {x : V} {s' : St} (e : stepV E s o = some (x, s')) : OpOk E v0 w0 g0 v lc a w o x s' := by
 simp only [stepV, ho] at e
 split at e
 ·rename_i A B X h1 h2 h3
  cases hc : convT A B X with
  | none => rw [hc] at e; cases e
  | some z =>
   rw [hc] at e
   injection e with e
   simp only [Prod.mk.injEq] at e
   obtain ⟨rfl, rfl⟩ := e
   obtain ⟨r, h4, h5⟩ := conv_ok h1 h2 hc (ev_rep h.W h.F h3) w
   exact OpOk.pure h (by simp [execOp, ho, h4]) h5
 ·cases e
theorem checkKey_ok {P : Program} {kt : TypeId} {kd : TypeDesc} (hu : P.underlying kt = some kd) {k : PV} (hk : keyOk kd k = true) {y : Value} {sg : Nat → Option (Array Value)} (hy : RepP sg k y) (b : Bool) (w : World) :
  (Instr.checkKey b (9999 + 1) kt y).run P w = .ok () w := by
 rw [Instr.checkKey]
 simp only [Sem.run_bind, run_underlying hu, Result.andThen_ok]
 cases kd <;> cases k <;> simp [keyOk] at hk <;> cases hy <;> rfl
theorem findNow_ok {kd : TypeDesc} {k : PV} (hk : keyOk kd k = true) {y : Value} {sg : Nat → Option (Array Value)} (hy : RepP sg k y) :
  ∀ (es : List (PV × V × Nat)) (ms : List MapEntry) (i0 : Nat), es.length = ms.length → (∀ (i : Nat) (x : PV × V × Nat) (m : MapEntry), es[i]? = some x → ms[i]? = some m → keyOk kd x.1 = true ∧ RepP sg x.1 m.key) →
   ∃ r, Instr.findNow kd y ms i0 = some r ∧ (findKey es k = none → r = none) ∧
    (∀ x, findKey es k = some x → ∃ i e m, r = some (i0 + i, m.val) ∧ es[i]? = some e ∧ ms[i]? = some m ∧ e.2.1 = x ∧ keyEq k e.1 = true ∧ ∀ (j : Nat) (e' : PV × V × Nat), j < i → es[j]? = some e' → keyEq k e'.1 = false)
 | [], [], i0, _, _ => ⟨none, rfl, fun _ => rfl, fun x h => by simp [findKey] at h⟩
 | [], _ :: _, _, hl, _ => absurd hl (by simp)
 | _ :: _, [], _, hl, _ => absurd hl (by simp)
 | e :: es, m :: ms, i0, hl, hr => by
  obtain ⟨h1, h2⟩ := hr 0 e m rfl rfl
  have hsame : Instr.sameNow kd y m.key = some (keyEq k e.1) := by
   obtain ⟨ek, ev, eb⟩ := e
   simp only at h1 h2 ⊢
   generalize hm : m.key = mk at h2
   cases kd <;> cases k <;> simp [keyOk] at hk <;> cases ek <;> simp [keyOk] at h1 <;> cases hy <;> cases h2 <;> simp_all [Instr.sameNow, keyEq]
  unfold Instr.findNow
  rw [hsame]
  cases hb : keyEq k e.1 with
  | true =>
   refine ⟨some (i0, m.val), rfl, fun h => by simp [findKey, hb] at h, fun x hx => ?_⟩
   simp [findKey, hb] at hx
   exact ⟨0, e, m, rfl, rfl, rfl, hx, hb, fun j e' hj => by omega⟩
  | false =>
   obtain ⟨r, q1, q2, q3⟩ := findNow_ok hk hy es ms (i0 + 1) (by simpa using hl) (fun i x m' hx hm => hr (i + 1) x m' (by simpa using hx) (by simpa using hm))
   refine ⟨r, q1, fun h => q2 (by simpa [findKey, hb] using h), fun x hx => ?_⟩
   obtain ⟨i, e', m', p1, p2, p3, p4, p5, p6⟩ := q3 x (by simpa [findKey, hb] using hx)
   refine ⟨i + 1, e', m', by rw [p1]; congr 2; omega, by simpa using p2, by simpa using p3, p4, p5, fun j e2 hj he => ?_⟩
   cases j with
   | zero => simp at he; subst he; exact hb
   | succ j => exact p6 j e2 (by omega) (by simpa using he)
theorem RepO.mapInv {es : List (PV × V × Nat)} {clock : Nat} {X : Option Obj} (h : RepO v (.map es clock) X) : ∃ arr, X = some (.map arr clock) ∧ es.length = arr.size ∧
   (∀ (i : Nat) (x : PV × V × Nat) (m : MapEntry), es[i]? = some x → arr[i]? = some m → RepP v.sg x.1 m.key ∧ RepA v x.2.1 m.val ∧ m.born = x.2.2) := by
 cases h with | map h1 h2 => exact ⟨_, rfl, h1, h2⟩
theorem getObj_ok {P : Program} {b : Nat} {arr : Array MapEntry} {clock : Nat} (h : w.heap[b]? = some (.map arr clock)) : (getObj b).run P w = .ok (.map arr clock) w := by
 simp [getObj, Sem.run, h]
theorem findKey_run {P : Program} {kt : TypeId} {kd : TypeDesc} (hu : P.underlying kt = some kd) {y : Value} {ms : List MapEntry} {r : Option (Nat × Value)} (h : Instr.findNow kd y ms 0 = some r) (w : World) :
  (Instr.findKey kt y ms).run P w = .ok r w := by
 unfold Instr.findKey
 simp only [Sem.run_bind, run_underlying hu, Result.andThen_ok, h, Sem.run_pure]
theorem entries_ok (h : Rl E v0 w0 g0 v lc s a w) {M : V} {y : Value} {es : List (PV × V × Nat)} (e : entriesOf s.g M = some es) (hM : RepV v lc M y) :
  (y = .map none ∧ es = []) ∨ ∃ r arr clock, y = .map (some r) ∧ w.heap[r]? = some (.map arr clock) ∧ es.length = arr.size ∧
   (∀ (i : Nat) (x : PV × V × Nat) (m : MapEntry), es[i]? = some x → arr[i]? = some m → RepP v.sg x.1 m.key ∧ RepA v x.2.1 m.val ∧ m.born = x.2.2) := by
 unfold entriesOf at e
 split at e
 ·injection e with e
  subst e
  have := hM.pInv
  cases this
  exact .inl ⟨rfl, rfl⟩
 ·rename_i id
  split at e
  ·rename_i es' clock hob
   injection e with e
   subst e
   obtain ⟨arr, g1, g2, g3⟩ := RepO.mapInv (h.W.obj id _ hob)
   cases hM with
   | a hM => cases hM with | cell hM =>
    cases hM with | map hid =>
    exact .inr ⟨_, arr, _, rfl, g1, g2, g3⟩
  ·cases e
 ·cases e
theorem step_lookup (h : Rl E v0 w0 g0 v lc s a w) {t : TypeId} {p q : Operand} {ok : Bool} (ho : o.op = .lookup t p q ok) {x : V} {s' : St} (e : stepV E s o = some (x, s')) : OpOk E v0 w0 g0 v lc a w o x s' := by
 simp only [stepV, ho] at e
 split at e
 ·rename_i kt et M k hu hp hq
  split at e
  ·rename_i kd zV es hk hz hes
   split at e
   ·rename_i hc
    obtain ⟨hkey, hall⟩ := hc
    have hK := (ev_rep h.W h.F hq).pInv
    obtain ⟨zv, z1, z2⟩ := r_zeroV (v := v) hz w
    have main : ∀ (arr : Array MapEntry), es.length = arr.size →
      (∀ (i : Nat) (x : PV × V × Nat) (m : MapEntry), es[i]? = some x → arr[i]? = some m → RepP v.sg x.1 m.key ∧ RepA v x.2.1 m.val ∧ m.born = x.2.2) →
      ∃ vv yv b, x = (if ok = true then V.tup [vv, .p (.bool b)] else vv) ∧ s' = s ∧ RepA v vv yv ∧
       (do
        Instr.checkKey arr.isEmpty 10000 kt (a.eval q)
        let (v, ok') ← match ← Instr.findKey kt (a.eval q) arr.toList with
         | some (_, v) => Pure.pure (v, true)
         | none => Pure.pure (← zeroValue et, false)
        Pure.pure (if ok then .tuple #[v, .bool ok'] else v) : Sem Value).run E.P w = .ok (if ok then .tuple #[yv, .bool b] else yv) w := by
     intro arr g2 g3
     obtain ⟨r, f1, f2, f3⟩ := findNow_ok hkey hK es arr.toList 0 (by simpa using g2) (fun i x m hx hm => ⟨List.all_eq_true.1 hall x (List.mem_of_getElem? hx), (g3 i x m hx (by simpa using hm)).1⟩)
     have hck : (Instr.checkKey arr.isEmpty 10000 kt (a.eval q)).run E.P w = .ok () w := checkKey_ok (P := E.P) hk hkey hK arr.isEmpty w
     split at e
     ·rename_i vv hf
      injection e with e
      simp only [Prod.mk.injEq] at e
      obtain ⟨rfl, rfl⟩ := e
      obtain ⟨i, en, m, p1, p2, p3, p4, p5, p6⟩ := f3 vv hf
      subst p1
      refine ⟨vv, m.val, true, rfl, rfl, by rw [← p4]; exact (g3 i en m p2 (by simpa using p3)).2.1, ?_⟩
      simp only [Sem.run_bind, hck, Result.andThen_ok, findKey_run hk f1, Sem.run_pure]
     ·rename_i hf
      injection e with e
      simp only [Prod.mk.injEq] at e
      obtain ⟨rfl, rfl⟩ := e
      have hr0 := f2 hf
      subst hr0
      refine ⟨zV, zv, false, rfl, rfl, z2, ?_⟩
      simp only [Sem.run_bind, hck, Result.andThen_ok, findKey_run hk f1, Sem.run_pure, z1]
    have fin : ∀ vv yv b, RepA v vv yv → (Instr.lookup t (a.eval p) (a.eval q) ok).run E.P w = .ok (if ok then .tuple #[yv, .bool b] else yv) w →
      OpOk E v0 w0 g0 v lc a w o (if ok = true then V.tup [vv, .p (.bool b)] else vv) s := by
     intro vv yv b hrep hlook
     refine OpOk.pure h (y := if ok then .tuple #[yv, .bool b] else yv) (by simp [execOp, ho, hlook]) ?_
     cases ok with
     | false => exact .a hrep
     | true =>
      simp only [if_true]
      refine RepV.tup (ys := [yv, .bool b]) rfl (fun i x y hx hy => ?_)
      match i, hx, hy with
      | 0, hx, hy => simp at hx hy; subst hx hy; exact hrep
      | 1, hx, hy => simp at hx hy; subst hx hy; exact .cell (.p .bool)
      | i + 2, hx, hy => simp at hx
    rcases entries_ok h hes (ev_rep h.W h.F hp) with ⟨hy, he0⟩ | ⟨r, arr, clock, hy, g1, g2, g3⟩
    ·subst he0
     obtain ⟨vv, yv, b, q1, q2, q3, q4⟩ := main #[] rfl (fun i x m hx => by simp at hx)
     rw [q1, q2]
     refine fin vv yv b q3 ?_
     unfold Instr.lookup
     simp only [Sem.run_bind, run_underlying hu, Result.andThen_ok, hy, Sem.run_pure]
     simp only [Sem.run_bind] at q4
     exact q4
    ·obtain ⟨vv, yv, b, q1, q2, q3, q4⟩ := main arr g2 g3
     rw [q1, q2]
     refine fin vv yv b q3 ?_
     unfold Instr.lookup
     simp only [Sem.run_bind, run_underlying hu, Result.andThen_ok, hy, getObj_ok g1, Sem.run_pure]
     simp only [Sem.run_bind] at q4
     exact q4
   ·cases e
  ·cases e
 ·cases e
theorem RepO.iterInv' {m : Option Nat} {since : Nat} {seen : List Nat} {stepped : Nat} {X : Option Obj} (h : RepO v (.iter m since seen stepped) X) : X = some (.mapIter (m.map v.rho) since seen.toArray stepped) := by
 cases h with | iter h => rfl
theorem find_born {es : List (PV × V × Nat)} {l : List MapEntry} {b : Nat} : es.length = l.length →
  (∀ (i : Nat) (x : PV × V × Nat) (m : MapEntry), es[i]? = some x → l[i]? = some m → RepP v.sg x.1 m.key ∧ RepA v x.2.1 m.val ∧ m.born = x.2.2) →
  ∀ x, es.find? (fun e => e.2.2 == b) = some x → ∃ m, l.find? (·.born == b) = some m ∧ RepP v.sg x.1 m.key ∧ RepA v x.2.1 m.val := by
 induction es generalizing l with
 | nil => intro _ _ x hx; simp at hx
 | cons e es ih =>
  intro hl hr x hx
  cases l with
  | nil => simp at hl
  | cons m l =>
   have h0 := hr 0 e m rfl rfl
   by_cases hb : e.2.2 = b
   ·rw [List.find?_cons_of_pos (by simpa using hb)] at hx
    cases hx
    exact ⟨m, List.find?_cons_of_pos (by simpa [h0.2.2] using hb), h0.1, h0.2.1⟩
   ·rw [List.find?_cons_of_neg (by simpa using hb)] at hx
    obtain ⟨m', q1, q2⟩ := ih (by simpa using hl) (fun i x m hx hm => hr (i + 1) x m (by simpa using hx) (by simpa using hm)) x hx
    exact ⟨m', by rw [List.find?_cons_of_neg (by simpa [h0.2.2] using hb)]; exact q1, q2⟩
theorem step_entry (h : Rl E v0 w0 g0 v lc s a w) {p : Operand} (ho : o.op = .entry p) {x : V} {s' : St} (e : stepV E s o = some (x, s')) : OpOk E v0 w0 g0 v lc a w o x s' := by
 simp only [stepV, ho] at e
 split at e
 ·rename_i it hp
  obtain ⟨z, hz, e'⟩ := Option.map_eq_some_iff.1 e
  simp only [Prod.mk.injEq] at e'
  obtain ⟨rfl, rfl⟩ := e'
  unfold entryOf at hz
  split at hz
  ·rename_i id
   split at hz
   ·rename_i m since seen stepped hob
    split at hz
    ·rename_i b es clock hlast hmob
     split at hz
     ·rename_i hclk
      split at hz
      ·rename_i en hf
       injection hz with hz
       subst hz
       have hit := ev_rep h.W h.F hp
       have hid : a.eval p = .pointer (some ⟨v.rho id, 0, none⟩) := by
        generalize a.eval p = y at hit
        cases hit with | a hy => cases hy with | cell hy => cases hy with | ptr hid => rfl
       have hX := RepO.iterInv' (h.W.obj id _ hob)
       obtain ⟨arr, g1, g2, g3⟩ := RepO.mapInv (h.W.obj m _ hmob)
       obtain ⟨me, m1, m2, m3⟩ := find_born (l := arr.toList) (by simpa using g2) (fun i x m hx hm => g3 i x m hx (by simpa using hm)) en hf
       have hgi : (getObj (v.rho id)).run E.P w = .ok (.mapIter (some (v.rho m)) since seen.toArray stepped) w := by
        simp [getObj, Sem.run, hX]
       have hback : seen.toArray.back? = some b := by simpa using hlast
       have hfind : arr.find? (·.born == b) = some me := by rw [← Array.find?_toList]; exact m1
       refine OpOk.pure h (y := .tuple #[me.key, me.val]) ?_ ?_
       ·simp only [execOp, ho, hid, Instr.entry, Sem.run_bind, hgi, Result.andThen_ok, hback, getObj_ok g1, hclk, hfind, Sem.run_pure]
        simp
       ·refine RepV.tup (ys := [me.key, me.val]) rfl (fun i x y hx hy => ?_)
        match i, hx, hy with
        | 0, hx, hy => simp at hx hy; subst hx hy; exact .cell (.p m2)
        | 1, hx, hy => simp at hx hy; subst hx hy; exact m3
        | i + 2, hx, hy => simp at hx
      ·cases hz
     ·cases hz
    ·cases hz
   ·cases hz
  ·cases hz
 ·cases e
end
end Go.Vm
set_option linter.unusedVariables false
namespace Go.Vm
open Go
section
variable {E : Env} {v0 : Vw} {w0 : World} {g0 : G} {v : Vw} {lc : Nat → Nat → Option Nat} {s : St} {a : Act} {w : World} {o : Oper}
theorem setObj_wrote {P : Program} {b : Nat} {arr : Array MapEntry} {clock : Nat} (h : w.heap[b]? = some (.map arr clock)) (O : Obj) : ∃ w', (setObj b O).run P w = .ok () w' ∧ Wrote w w' b O := by
 refine ⟨{ w with heap := w.heap.setIfInBounds b O }, by simp [setObj, Sem.run, h], ⟨?_, ?_, by simp, rfl, ⟨rfl, Nat.le_refl _⟩, rfl⟩⟩
 ·have := get_lt h
  simp [this]
 ·intro c hc
  have : b ≠ c := fun e => hc e.symm
  simp [this]
theorem setKey_get : ∀ (es : List (PV × V × Nat)) (k : PV) (x : V) (i : Nat) (e : PV × V × Nat), es[i]? = some e → keyEq k e.1 = true → (∀ (j : Nat) (e' : PV × V × Nat), j < i → es[j]? = some e' → keyEq k e'.1 = false) →
  setKey es k x = es.set i (k, x, e.2.2)
 | [], k, x, i, e, h, _, _ => by simp at h
 | y :: es, k, x, 0, e, h, h1, _ => by
  simp at h; subst h
  simp [setKey, h1]
 | y :: es, k, x, i + 1, e, h, h1, h2 => by
  have := h2 0 y (by omega) rfl
  have ih := setKey_get es k x i e (by simpa using h) h1 (fun j e' hj he => h2 (j + 1) e' (by omega) (by simpa using he))
  simp [setKey, this, ih]
theorem bytes_beq {x y : ByteArray} (h : (x == y) = true) : x = y := by
 have h' : (x.data == y.data) = true := h
 exact ByteArray.ext (eq_of_beq h')
theorem bytes_self (x : ByteArray) : (x == x) = true := by
 show (x.data == x.data) = true
 exact beq_self_eq_true _
theorem sameBits_ok {k k' : PV} {kd : TypeDesc} (h1 : keyOk kd k = true) (h2 : keyEq k k' = true) {sg : Nat → Option (Array Value)} {y y' : Value} (hy : RepP sg k y) (hy' : RepP sg k' y') : Instr.sameBits (9999 + 1) y' y = true := by
 cases k <;> cases k' <;> simp [keyEq] at h2 <;> cases hy <;> cases hy' <;> first | (simp [Instr.sameBits, h2]; done) | (have := bytes_beq h2; subst this; simp only [Instr.sameBits]; exact bytes_self _)
theorem step_mapUpdate (B : Base v0 w0 g0) (h : Rl E v0 w0 g0 v lc s a w) {t : TypeId} {m k p : Operand} (ho : o.op = .mapUpdate t m k p ∨ o.op = .insert t m k p) {x : V} {s' : St} (e : stepV E s o = some (x, s')) : OpOk E v0 w0 g0 v lc a w o x s' := by
 have e : (match E.P.underlying t, s.ev E m, s.ev E k, s.ev E p with
  | some (.map kt et), some (.map id), some (.p key), some v =>
   match E.P.underlying kt, s.g.objs[id]? with
   | some kd, some (.map es clock) =>
    if keyOk kd key ∧ (cellsOf v).all one ∧ es.all (fun e => keyOk kd e.1) then
     match findKey es key with
     | some _ => some (V.undef, { s with g := s.g.setObj id (.map (setKey es key v) clock) })
     | none => some (.undef, { s with g := s.g.setObj id (.map (es ++ [(key, v, clock)]) (clock + 1)) })
    else none
   | _, _ => none
  | _, _, _, _ => none) = some (x, s') := by
  rcases ho with ho | ho <;> (simp only [stepV, ho] at e; exact e)
 have hexec : (execOp a.eval o).run E.P w = ((Instr.mapUpdate t (a.eval m) (a.eval k) (a.eval p)).run E.P w).andThen fun _ w' => .ok .skip w' := by
  rcases ho with ho | ho <;> simp [execOp, ho]
 split at e
 ·rename_i kt et id key X hu hm hk hp
  split at e
  ·rename_i kd es clock hkd hob
   split at e
   ·rename_i hc
    obtain ⟨hkey, h1, hall⟩ := hc
    have hK := (ev_rep h.W h.F hk).pInv
    have hA := (ev_rep h.W h.F hp).toA h1
    obtain ⟨arr, g1, g2, g3⟩ := RepO.mapInv (h.W.obj id _ hob)
    have hM := ev_rep h.W h.F hm
    have hmv : a.eval m = .map (some (v.rho id)) := by
     cases hM with
     | a hM => cases hM with | cell hM =>
      generalize hy : a.eval m = y at hM
      cases hM; rfl
    have hid := (List.getElem?_eq_some_iff.1 hob).1
    obtain ⟨r, f1, f2, f3⟩ := findNow_ok hkey hK es arr.toList 0 (by simpa using g2) (fun i x m hx hm => ⟨List.all_eq_true.1 hall x (List.mem_of_getElem? hx), (g3 i x m hx (by simpa using hm)).1⟩)
    have hck : (Instr.checkKey false 10000 kt (a.eval k)).run E.P w = .ok () w := checkKey_ok (P := E.P) hkd hkey hK false w
    split at e
    ·rename_i vv hf
     injection e with e
     simp only [Prod.mk.injEq] at e
     obtain ⟨rfl, rfl⟩ := e
     obtain ⟨i, en, me, p1, p2, p3, p4, p5, p6⟩ := f3 _ hf
     subst p1
     have p3' : arr[i]? = some me := by simpa using p3
     obtain ⟨w', q1, q2⟩ := setObj_wrote (P := E.P) g1 (.map (arr.modify i fun e => { e with key := a.eval k, val := a.eval p }) clock)
     have hsk := setKey_get es key X i en p2 p5 p6
     have hRO : RepO v (.map (setKey es key X) clock) (some (.map (arr.modify i fun e => { e with key := a.eval k, val := a.eval p }) clock)) := by
      rw [hsk]
      refine .map (by simp [g2]) (fun j x mm hx hmm => ?_)
      rw [Array.getElem?_modify] at hmm
      by_cases hj : i = j
      ·subst hj
       rw [if_pos rfl, p3'] at hmm
       injection hmm with hmm
       subst hmm
       rw [List.getElem?_set_self (List.getElem?_eq_some_iff.1 p2).1] at hx
       injection hx with hx
       subst hx
       exact ⟨hK, hA, (g3 i en me p2 p3').2.2⟩
      ·rw [if_neg hj] at hmm
       rw [List.getElem?_set_ne hj] at hx
       exact g3 j x mm hx hmm
     refine ⟨.skip, w', v, lc, undef, ?_, .inr ⟨rfl, rfl⟩, Ext.refl v, fun _ _ _ h => h, h.storeO B hid ⟨_, hob, rfl⟩ q2 (fun C e fr h => by cases h) hRO, .undef⟩
     rw [hexec]
     have hsb : Instr.sameBits 10000 (((arr[i]?).map (·.key)).getD (a.eval k)) (a.eval k) = true := by
      rw [p3']
      exact sameBits_ok hkey p5 hK (g3 i en me p2 p3').1
     simp only [Instr.mapUpdate, Sem.run_bind, run_underlying hu, Result.andThen_ok, hmv, getObj_ok g1, hck, findKey_run hkd f1, Instr.keyThatStays, Nat.zero_add, hsb, if_true, Sem.run_pure, q1]
    ·rename_i hf
     injection e with e
     simp only [Prod.mk.injEq] at e
     obtain ⟨rfl, rfl⟩ := e
     have hr0 := f2 hf
     subst hr0
     obtain ⟨w', q1, q2⟩ := setObj_wrote (P := E.P) g1 (.map (arr.push { key := a.eval k, val := a.eval p, born := clock }) (clock + 1))
     have hRO : RepO v (.map (es ++ [(key, X, clock)]) (clock + 1)) (some (.map (arr.push { key := a.eval k, val := a.eval p, born := clock }) (clock + 1))) := by
      refine .map (by simp [g2]) (fun j x mm hx hmm => ?_)
      by_cases hj : j < es.length
      ·rw [List.getElem?_append_left hj] at hx
       rw [Array.getElem?_push_lt (by omega)] at hmm
       exact g3 j x mm hx (by rw [Array.getElem?_eq_getElem (by omega)]; exact hmm)
      ·have : j = es.length := by
        have := (List.getElem?_eq_some_iff.1 hx).1
        simp at this
        omega
       subst this
       simp at hx
       subst hx
       rw [g2] at hmm
       simp at hmm
       subst hmm
       exact ⟨hK, hA, rfl⟩
     refine ⟨.skip, w', v, lc, undef, ?_, .inr ⟨rfl, rfl⟩, Ext.refl v, fun _ _ _ h => h, h.storeO B hid ⟨_, hob, rfl⟩ q2 (fun C e fr h => by cases h) hRO, .undef⟩
     rw [hexec]
     simp only [Instr.mapUpdate, Sem.run_bind, run_underlying hu, Result.andThen_ok, hmv, getObj_ok g1, hck, findKey_run hkd f1, q1]
   ·cases e
  ·cases e
 ·cases e
theorem step_range (B : Base v0 w0 g0) (h : Rl E v0 w0 g0 v lc s a w) {t : TypeId} {p : Operand} (ho : o.op = .range t p) {x : V} {s' : St} (e : stepV E s o = some (x, s')) : OpOk E v0 w0 g0 v lc a w o x s' := by
 simp only [stepV, ho] at e
 have hn : v.nobj = s.g.objs.length := h.W.nobj
 have fin : ∀ (m : Option Nat) (since stepped : Nat), (∀ i, m = some i → i < v.nobj) →
   ((Instr.range t (a.eval p)).run E.P w = .ok (.pointer (some ⟨w.heap.size, 0, none⟩)) { w with heap := w.heap.push (.mapIter (m.map v.rho) since #[] stepped) }) →
   OpOk E v0 w0 g0 v lc a w o (.ptr s.g.objs.length 0) { s with g := s.g.newObj (.iter m since [] stepped) } := by
  intro m since stepped hm hrun
  have hx0 := Ext.addObj v w.heap.size
  have ho' : RepO (v.addObj w.heap.size) (.iter m since [] stepped) (some (.mapIter (m.map v.rho) since #[] stepped)) := by
   have := (RepO.iter (v := v) (m := m) (since := since) (seen := []) (stepped := stepped) hm).ext hx0
   simpa using this
  obtain ⟨hx, hR⟩ := h.pushO B _ _ 0 (fun C e fr h => by cases h) ho'
  refine ⟨_, _, _, lc, .pointer (some ⟨w.heap.size, 0, none⟩), by simp [execOp, ho, hrun], .inl rfl, hx, fun _ _ _ h => h, hR, .a (.cell ?_)⟩
  have : (v.addObj w.heap.size).rho s.g.objs.length = w.heap.size := by simp [Vw.addObj, upd, hn]
  have r := RepC.ptr (v := v.addObj w.heap.size) (id := s.g.objs.length) (off := 0) (by simp [Vw.addObj, hn])
  rw [this] at r
  exact r
 split at e
 ·rename_i kt et m hu hp
  split at e
  ·rename_i es clock hob
   injection e with e
   simp only [Prod.mk.injEq] at e
   obtain ⟨rfl, rfl⟩ := e
   obtain ⟨arr, g1, g2, g3⟩ := RepO.mapInv (h.W.obj m _ hob)
   have hM := ev_rep h.W h.F hp
   have hmv : a.eval p = .map (some (v.rho m)) := by
    cases hM with
    | a hM => cases hM with | cell hM =>
     generalize hy : a.eval p = y at hM
     cases hM; rfl
   have hid := (List.getElem?_eq_some_iff.1 hob).1
   refine fin (some m) clock clock (fun i hi => by injection hi with hi; omega) ?_
   simp [Instr.range, run_underlying hu, hmv, getObj_ok g1]
  ·cases e
 ·rename_i kt et hu hp
  injection e with e
  simp only [Prod.mk.injEq] at e
  obtain ⟨rfl, rfl⟩ := e
  have hM := (ev_rep h.W h.F hp).pInv
  refine fin none 0 0 (fun i hi => by cases hi) ?_
  generalize hy : a.eval p = y at hM
  cases hM
  simp [Instr.range, run_underlying hu]
 ·cases e
end
end Go.Vm
set_option linter.unusedVariables false
namespace Go.Vm
open Go
section
variable {E : Env} {v0 : Vw} {w0 : World} {g0 : G} {v : Vw} {lc : Nat → Nat → Option Nat} {s : St} {a : Act} {w : World} {o : Oper}
theorem RepV.arrInv {id off len cap n : Nat} {y : Value} (h : RepV v lc (.arr id off len cap n) y) : RepC v (.arr id off len cap n) y := by
 cases h with | a h => cases h with | cell h => exact h
theorem RepV.mapInv {id : Nat} {y : Value} (h : RepV v lc (.map id) y) : y = .map (some (v.rho id)) ∧ id < v.nobj := by
 cases h with | a h => cases h with | cell h => cases h with | map h => exact ⟨rfl, h⟩
theorem lenOf_ok (h : Rl E v0 w0 g0 v lc s a w) {d : TypeDesc} {x : V} {y : Value} {n : Nat} (e : lenOf s d x = some n) (hx : RepV v lc x y) {t : TypeId} (hu : E.P.underlying t = some d) (ats : Array TypeId) (hat : ats[0]? = some t) (ty : TypeId) :
  (Builtin.len_ ats ty #[y]).run E.P w = .ok (.int .i64 n) w := by
 unfold Builtin.len_
 simp only [hat, show (#[y] : Array Value)[0]? = some y from rfl, Sem.run_bind, run_underlying hu, Result.andThen_ok]
 unfold lenOf at e
 split at e
 ·injection e with e; subst e
  have := hx.pInv; cases this; rfl
 ·injection e with e; subst e
  have := hx.pInv; cases this; rfl
 ·injection e with e; subst e
  obtain ⟨ad, cap, rfl, _⟩ := RepP.toSl (lc := lc) hx.pInv
  rfl
 ·injection e with e; subst e
  rw [RepA.str_inv hx]; rfl
 ·injection e with e; subst e
  have := hx.slInv
  cases this; rfl
 ·injection e with e; subst e
  have := hx.arrInv
  cases this; rfl
 ·rename_i id
  split at e
  ·rename_i es clock hob
   injection e with e; subst e
   obtain ⟨arr, g1, g2, g3⟩ := RepO.mapInv (h.W.obj id _ hob)
   rw [hx.mapInv.1]
   simp only [Sem.run_bind, getObj_ok g1, Result.andThen_ok, Sem.run_pure, g2]
   rfl
  ·cases e
 ·cases e
theorem step_len (h : Rl E v0 w0 g0 v lc s a w) {args : Array Operand} {ats : Array TypeId} (ho : o.op = .call { callee := .builtin .len, args := args, argTypes := ats }) {x : V} {s' : St} (e : stepV E s o = some (x, s')) : OpOk E v0 w0 g0 v lc a w o x s' := by
 simp only [stepV, ho] at e
 split at e
 ·rename_i X t hl hat
  cases hu : E.P.underlying t with
  | none => rw [hu] at e; cases e
  | some d =>
   rw [hu] at e
   simp only at e
   cases hn : lenOf s d X with
   | none => rw [hn] at e; cases e
   | some n =>
    rw [hn] at e
    injection e with e
    simp only [Prod.mk.injEq] at e
    obtain ⟨rfl, rfl⟩ := e
    obtain ⟨q1, q2⟩ := evL_ok h hl
    have h1 : ∃ p, args.toList = [p] := by
     match hh : args.toList, q1 with
     | [p], _ => exact ⟨p, rfl⟩
     | [], q1 => simp at q1
     | _ :: _ :: _, q1 => simp at q1
    obtain ⟨p, hp⟩ := h1
    have hargs : args = #[p] := by rw [← Array.toArray_toList (xs := args), hp]
    have hX := q2 0 X (a.eval p) rfl (by rw [hp]; rfl)
    have := lenOf_ok h hn hX hu ats hat o.type
    refine OpOk.pure h ?_ (RepV.p_of .int)
    simp [execOp, ho, resolve, invoke, builtin, hargs, this]
 ·cases e
theorem asNat_ok' {x : V} {y : Value} {n m m' : Nat} (e : asNat x m = some n) (h : RepV v lc x y) (code : BoundsCode) (hm : m ≤ m') (w : World) : (Instr.sliceBound y m' code).run E.P w = .ok n w ∧ n ≤ m := by
 unfold asNat at e
 split at e
 ·rename_i k j
  split at e
  ·rename_i hj
   injection e with e
   subst e
   rw [RepA.int_inv h]
   refine ⟨?_, by omega⟩
   simp only [Instr.sliceBound, asIntOf, Sem.run_bind, Sem.run_pure, Result.andThen_ok]
   rw [if_pos ⟨hj.1, by omega⟩]
   rfl
  ·cases e
 ·cases e
theorem bounds_ok {hi lo : Option V} {yh yl : Option Value} {len cap most h l : Nat} (eh : hiOf hi most len = some h) (el : loOf lo h = some l) (hm : most ≤ cap) (hl : len ≤ cap) (isS : Bool)
  (rh : ∀ x, hi = some x → ∃ y, yh = some y ∧ RepV v lc x y) (rh0 : hi = none → yh = none) (rl : ∀ x, lo = some x → ∃ y, yl = some y ∧ RepV v lc x y) (rl0 : lo = none → yl = none) (w : World) :
  (Instr.sliceBounds isS len cap yl yh none).run E.P w = .ok (l, h, cap) w ∧ l ≤ h ∧ h ≤ cap ∧ (h ≤ most ∨ h = len) := by
 cases hi with
 | none =>
  have := rh0 rfl
  subst this
  simp only [hiOf] at eh
  injection eh with eh
  subst eh
  cases lo with
  | none =>
   have := rl0 rfl
   subst this
   simp only [loOf] at el
   injection el with el
   subst el
   exact ⟨rfl, Nat.zero_le _, hl, .inr rfl⟩
  | some z =>
   obtain ⟨y, rfl, r⟩ := rl z rfl
   obtain ⟨q1, q2⟩ := asNat_ok' (E := E) el r .sliceB (Nat.le_refl _) w
   refine ⟨?_, q2, hl, .inr rfl⟩
   unfold Instr.sliceBounds
   simp only [Sem.run_bind, Sem.run_pure, Result.andThen_ok, Option.isSome_none, Bool.false_eq_true, if_false, q1]
 | some x =>
  obtain ⟨y, rfl, r⟩ := rh x rfl
  obtain ⟨p1, p2⟩ := asNat_ok' (E := E) eh r (if isS then .sliceAcap else .sliceAlen) hm w
  cases lo with
  | none =>
   have := rl0 rfl
   subst this
   simp only [loOf] at el
   injection el with el
   subst el
   refine ⟨?_, Nat.zero_le _, by omega, .inl p2⟩
   unfold Instr.sliceBounds
   simp only [Sem.run_bind, Sem.run_pure, Result.andThen_ok, p1]
  | some z =>
   obtain ⟨y', rfl, r'⟩ := rl z rfl
   obtain ⟨q1, q2⟩ := asNat_ok' (E := E) el r' .sliceB (Nat.le_refl _) w
   refine ⟨?_, q2, by omega, .inl p2⟩
   unfold Instr.sliceBounds
   simp only [Sem.run_bind, Sem.run_pure, Result.andThen_ok, p1, Option.isSome_none, Bool.false_eq_true, if_false, q1]
theorem sub_get {α : Type} {rows : List α} {l h i : Nat} {r : α} (e : ((rows.take h).drop l)[i]? = some r) : rows[l + i]? = some r ∧ l + i < h := by
 rw [List.getElem?_drop, List.getElem?_take] at e
 split at e
 ·exact ⟨e, by assumption⟩
 ·cases e
theorem addr_eq {ad : Addr} (h : ad.spot = none) (n : Nat) : ad.add n = ⟨ad.block, ad.off + n, none⟩ := by
 have hk : ad = ⟨ad.block, ad.off, none⟩ := by cases ad; simp at h; simp [h]
 rw [hk, add_addr]
theorem RepP.sub {sg : Nat → Option (Array Value)} {rows : List (List PV)} {ad : Addr} {len cap n h l : Nat} (hr : RepP sg (.sl rows) (.slice (some ad) len cap)) (hd : headOk n rows = true) (hl : l ≤ h) (hh : h ≤ rows.length) :
  RepP sg (.sl ((rows.take h).drop l)) (.slice (if cap = l then some ad else some (ad.add (l * n))) (h - l) (cap - l)) := by
 cases hr with
 | @sl _ _ _ m f cs h1 h2 h3 h4 h5 h6 =>
  have hlen : ((rows.take h).drop l).length = h - l := by simp; omega
  have hadd : (if cap = l then some ad else some (ad.add (l * n))) = some (if cap = l then ad else ad.add (l * n)) := by split <;> rfl
  rw [hadd, ← hlen]
  by_cases he : (rows.take h).drop l = []
  ·rw [he]
   refine .sl (n := n) f #[] (fun hne => absurd rfl hne) (by simp) (fun r hr => by simp at hr) (fun hne => absurd rfl hne) (fun i j r x hi => by simp at hi) (fun i j r x hi => by simp at hi)
  ·have hc : cap ≠ l := by
    intro hc
    apply he
    apply List.eq_nil_of_length_eq_zero
    rw [hlen]
    omega
   have hne : rows ≠ [] := by rintro rfl; simp at he
   rw [if_neg hc, addr_eq (h1 hne)]
   have hm : m = n := by
    match rows, hne, hd, h3 with
    | r :: _, _, hd, h3 =>
     simp only [headOk, beq_iff_eq] at hd
     rw [← hd]
     exact (h3 r (by simp)).symm
   subst hm
   refine .sl (n := m) (fun i j => f (l + i) j) cs (fun _ => rfl) (by rw [hlen]; omega) (fun r hr => h3 r (List.mem_of_mem_take (List.mem_of_mem_drop hr))) (fun _ => h4 hne) (fun i j r x hi hj => ?_) (fun i j r x hi hj => h6 (l + i) j r x (sub_get hi).1 hj)
   have := h5 (l + i) j r x (sub_get hi).1 hj
   rw [← this]
   simp only
   congr 1
   rw [Nat.add_mul]
   omega
theorem RepC.sub {rows : List (List V)} {k : SK} {ad : Addr} {len cap n l : Nat} (hr : RepC v (.sl rows k) (.slice (some ad) len cap)) (hd : headOk n rows = true) (hl : l ≤ rows.length) (hk : ∀ t p m, k = .own t p m → m = n) :
  RepC v (.sl (rows.drop l) k) (.slice (if cap = l then some ad else some (ad.add (l * n))) (rows.length - l) (cap - l)) := by
 cases hr with
 | @sl _ _ _ m _ f cs h1 h2 h3 h4 h5 h6 h7 h8 =>
  have hlen : (rows.drop l).length = rows.length - l := by simp
  have hadd : (if cap = l then some ad else some (ad.add (l * n))) = some (if cap = l then ad else ad.add (l * n)) := by split <;> rfl
  rw [hadd, ← hlen]
  have hget : ∀ (i : Nat) (r : List V), (rows.drop l)[i]? = some r → rows[l + i]? = some r := fun i r e => by rw [List.getElem?_drop] at e; exact e
  have hx : k = .exact → cap - l = (rows.drop l).length := fun e => by rw [hlen, h7 e]
  have ho : ∀ t pos m', k = .own t pos m' → ∃ q, v.toks[t]? = some q ∧ pos ≤ q ∧ (q = pos → cap - l = (rows.drop l).length ∨
    ((if cap = l then ad else ad.add (l * n)).block = v.kap t ∧ ∃ cs', v.sg (v.kap t) = some cs' ∧ (if cap = l then ad else ad.add (l * n)).off + (rows.drop l).length * m' = cs'.size ∧ (if cap = l then ad else ad.add (l * n)).off + (cap - l) * m' ≤ v.kn t)) := by
   intro t pos m' e
   have hmn := hk t pos m' e
   subst hmn
   obtain ⟨q, q1, q2, q3⟩ := h8 t pos m' e
   refine ⟨q, q1, q2, fun e2 => ?_⟩
   rcases q3 e2 with hc | ⟨hb, cs', c1, c2, c3⟩
   ·exact .inl (by rw [hlen, hc])
   ·by_cases hcl : cap = l
    ·have hrl : rows.length = cap := Nat.le_antisymm h2 (hcl ▸ hl)
     exact .inl (by rw [hlen, hrl])
    ·rw [if_neg hcl, addr_eq h1]
     refine .inr ⟨hb, cs', c1, ?_, ?_⟩
     ·rw [hlen]
      simp only
      have : rows.length * m' = l * m' + (rows.length - l) * m' := by rw [← Nat.add_mul, Nat.add_sub_cancel' hl]
      omega
     ·simp only
      have : cap * m' = l * m' + (cap - l) * m' := by rw [← Nat.add_mul, Nat.add_sub_cancel' (Nat.le_trans hl h2)]
      omega
  by_cases he : rows.drop l = []
  ·have h9 : (rows.drop l).length ≤ cap - l := by rw [he]; simp
   have hxx := hx
   have hoo := ho
   rw [he] at hxx hoo h9 ⊢
   exact .sl (n := n) f #[] (by split; exact h1; rw [addr_eq h1]) h9 (fun r hr => by simp at hr) (fun hne => absurd rfl hne) (fun i j r x hi => by simp at hi) (fun i j r x hi => by simp at hi) hxx hoo
  ·have hc : cap ≠ l := by
    intro hc
    apply he
    apply List.eq_nil_of_length_eq_zero
    rw [hlen]
    omega
   have hne : rows ≠ [] := by rintro rfl; simp at he
   have hm : m = n := by
    match rows, hne, hd, h3 with
    | r :: _, _, hd, h3 =>
     simp only [headOk, beq_iff_eq] at hd
     rw [← hd]
     exact (h3 r (by simp)).symm
   subst hm
   rw [if_neg hc] at ho ⊢
   rw [addr_eq h1] at ho ⊢
   refine .sl (n := m) (fun i j => f (l + i) j) cs rfl (by rw [hlen]; omega) (fun r hr => h3 r (List.mem_of_mem_drop hr)) (fun _ => h4 hne) (fun i j r x hi hj => ?_) (fun i j r x hi hj => h6 (l + i) j r x (hget _ _ hi) hj) hx ho
   have := h5 (l + i) j r x (hget _ _ hi) hj
   rw [← this]
   simp only
   congr 1
   rw [Nat.add_mul]
   omega
theorem pvCells_ok {v : Vw} : ∀ {cs : List V} {xs : List PV}, pvCells cs = some xs → cs = xs.map .p
 | [], xs, e => by injection e with e; subst e; rfl
 | c :: cs, xs, e => by
  cases c with
  | p x =>
   simp only [pvCells] at e
   cases h : pvCells cs with
   | none => rw [h] at e; cases e
   | some ys =>
    rw [h] at e
    injection e with e
    subst e
    rw [pvCells_ok (v := v) h]
    rfl
  | _ => simp [pvCells] at e
theorem pvRows_ok {v : Vw} : ∀ {rs : List (List V)} {xs : List (List PV)}, pvRows rs = some xs → rs = xs.map (·.map .p)
 | [], xs, e => by injection e with e; subst e; rfl
 | r :: rs, xs, e => by
  unfold pvRows at e
  split at e
  ·rename_i x xs' h1 h2
   injection e with e
   subst e
   rw [pvCells_ok (v := v) h1, pvRows_ok (v := v) h2]
   rfl
  ·cases e
theorem RepC.sealed {rows : List (List V)} {k : SK} {y : Value} {xs : List (List PV)} (h : RepC v (.sl rows k) y) (e : pvRows rows = some xs) : RepP v.sg (.sl xs) y := by
 have he := pvRows_ok (v := v) e
 subst he
 cases h with
 | @sl _ ad cap m _ f cs h1 h2 h3 h4 h5 h6 h7 h8 =>
  have hget : ∀ (i : Nat) (r : List PV), xs[i]? = some r → (xs.map (·.map V.p))[i]? = some (r.map V.p) := fun i r hr => by rw [List.getElem?_map, hr]; rfl
  have := RepP.sl (sg := v.sg) (rows := xs) (a := ad) (cap := cap) (n := m) f cs (fun _ => h1) (by simpa using h2) (fun r hr => by have := h3 (r.map .p) (List.mem_map.2 ⟨r, hr, rfl⟩); simpa using this) (fun hne => h4 (by simpa using hne))
   (fun i j r x hi hj => h5 i j (r.map .p) (.p x) (hget i r hi) (by rw [List.getElem?_map, hj]; rfl))
   (fun i j r x hi hj => by
    have := h6 i j (r.map .p) (.p x) (hget i r hi) (by rw [List.getElem?_map, hj]; rfl)
    cases this; assumption)
  simpa using this
theorem RepC.sub2 {rows : List (List V)} {k : SK} {ad : Addr} {len cap n h l : Nat} {xs : List (List PV)} (hr : RepC v (.sl rows k) (.slice (some ad) len cap)) (hd : headOk n rows = true) (hl : l ≤ h) (hh : h ≤ rows.length)
  (e : pvRows ((rows.take h).drop l) = some xs) : RepP v.sg (.sl xs) (.slice (if cap = l then some ad else some (ad.add (l * n))) (h - l) (cap - l)) := by
 cases hr with
 | @sl _ _ _ m _ f cs h1 h2 h3 h4 h5 h6 h7 h8 =>
  have hxs := pvRows_ok (v := v) e
  have hlen : xs.length = h - l := by
   have := congrArg List.length hxs
   simp at this
   omega
  have hadd : (if cap = l then some ad else some (ad.add (l * n))) = some (if cap = l then ad else ad.add (l * n)) := by split <;> rfl
  rw [hadd, ← hlen]
  by_cases he : xs = []
  ·rw [he]
   exact .sl (n := n) f #[] (fun hne => absurd rfl hne) (by simp) (fun r hr => by simp at hr) (fun hne => absurd rfl hne) (fun i j r x hi => by simp at hi) (fun i j r x hi => by simp at hi)
  ·have hc : cap ≠ l := by
    intro hc
    apply he
    apply List.eq_nil_of_length_eq_zero
    omega
   have hne : rows ≠ [] := by
    rintro rfl
    simp at hxs
    exact he hxs
   have hm : m = n := by
    match rows, hne, hd, h3 with
    | r :: _, _, hd, h3 =>
     simp only [headOk, beq_iff_eq] at hd
     rw [← hd]
     exact (h3 r (by simp)).symm
   subst hm
   have hget : ∀ (i : Nat) (r : List PV), xs[i]? = some r → rows[l + i]? = some (r.map V.p) := by
    intro i r hr
    have : ((rows.take h).drop l)[i]? = some (r.map V.p) := by rw [hxs, List.getElem?_map, hr]; rfl
    exact (sub_get this).1
   rw [if_neg hc, addr_eq h1]
   refine .sl (n := m) (fun i j => f (l + i) j) cs (fun _ => rfl) (by omega) (fun r hr => ?_) (fun _ => h4 hne) (fun i j r x hi hj => ?_) (fun i j r x hi hj => ?_)
   ·obtain ⟨i, hi⟩ := List.mem_iff_getElem?.1 hr
    have := h3 _ (List.mem_of_getElem? (hget i r hi))
    simpa using this
   ·have := h5 (l + i) j _ (.p x) (hget i r hi) (by rw [List.getElem?_map, hj]; rfl)
    rw [← this]
    simp only
    congr 1
    rw [Nat.add_mul]
    omega
   ·have := h6 (l + i) j _ (.p x) (hget i r hi) (by rw [List.getElem?_map, hj]; rfl)
    cases this; assumption
theorem optEv_ok (h : Rl E v0 w0 g0 v lc s a w) {p : Option Operand} {x : Option V} (e : optEv E s p = some x) : (∀ z, x = some z → ∃ y, p.map a.eval = some y ∧ RepV v lc z y) ∧ (x = none → p.map a.eval = none) := by
 cases p with
 | none => simp only [optEv] at e; injection e with e; subst e; exact ⟨fun z hz => (by cases hz), fun _ => rfl⟩
 | some p =>
  simp only [optEv] at e
  cases hp : s.ev E p with
  | none => rw [hp] at e; cases e
  | some X =>
   rw [hp] at e
   injection e with e
   subst e
   exact ⟨fun z hz => ⟨a.eval p, rfl, by injection hz with hz; subst hz; exact ev_rep h.W h.F hp⟩, fun hz => by cases hz⟩
theorem slice_ok (h : Rl E v0 w0 g0 v lc s a w) {t : TypeId} {x z : V} {lo hi : Option V} {y : Value} {yl yh : Option Value} (e : s.slice E t x lo hi = some z) (hx : RepV v lc x y)
  (rh : ∀ x, hi = some x → ∃ y, yh = some y ∧ RepV v lc x y) (rh0 : hi = none → yh = none) (rl : ∀ x, lo = some x → ∃ y, yl = some y ∧ RepV v lc x y) (rl0 : lo = none → yl = none) :
  ∃ r, (Instr.sliceAt t y yl yh none).run E.P w = .ok r w ∧ RepV v lc z r := by
 unfold St.slice at e
 split at e
 ·rename_i hu
  split at e
  ·rename_i b
   cases hh : hiOf hi b.size b.size with
   | none => rw [hh] at e; cases e
   | some hv =>
    cases hl : loOf lo hv with
    | none => rw [hh] at e; simp only at e; rw [hl] at e; cases e
    | some l =>
     rw [hh] at e; simp only at e; rw [hl] at e
     injection e with e
     subst e
     obtain ⟨q1, q2⟩ := bounds_ok (E := E) hh hl (Nat.le_refl _) (Nat.le_refl _) false rh rh0 rl rl0 w
     rw [RepA.str_inv hx]
     refine ⟨_, ?_, RepV.p_of .str⟩
     simp only [Instr.sliceAt, Sem.run_bind, run_underlying hu, Result.andThen_ok, Instr.slice, Option.isSome_none, Bool.false_eq_true, if_false, q1]
     rfl
  ·cases e
 ·rename_i el hu
  cases hn : sz E el with
  | none => rw [hn] at e; cases e
  | some n =>
   rw [hn] at e
   simp only at e
   have run : ∀ {ad : Option Addr} {len cap hv l : Nat}, (Instr.sliceBounds true len cap yl yh none).run E.P w = .ok (l, hv, cap) w →
     (Instr.sliceAt t (.slice ad len cap) yl yh none).run E.P w = .ok (.slice (if cap = l then ad else ad.map (·.add (l * n))) (hv - l) (cap - l)) w := by
    intro ad len cap hv l hb
    simp only [Instr.sliceAt, Sem.run_bind, run_underlying hu, Result.andThen_ok, Instr.slice, hb, r_sz hn]
    rfl
   split at e
   ·cases hh : hiOf hi 0 0 with
    | none => rw [hh] at e; cases e
    | some hv =>
     cases hl : loOf lo hv with
     | none => rw [hh] at e; simp only at e; rw [hl] at e; cases e
     | some l =>
      rw [hh] at e; simp only at e; rw [hl] at e
      injection e with e
      subst e
      obtain ⟨q1, q2, q3, q4⟩ := bounds_ok (E := E) hh hl (Nat.le_refl 0) (Nat.le_refl 0) true rh rh0 rl rl0 w
      have := hx.pInv
      cases this
      refine ⟨_, run q1, ?_⟩
      have e1 : hv = 0 := by omega
      have e2 : l = 0 := by omega
      subst e1 e2
      exact RepV.p_of .nilsl
   ·rename_i rows
    cases hh : hiOf hi rows.length rows.length with
    | none => rw [hh] at e; cases e
    | some hv =>
     cases hl : loOf lo hv with
     | none => rw [hh] at e; simp only at e; rw [hl] at e; cases e
     | some l =>
      rw [hh] at e; simp only at e; rw [hl] at e
      simp only at e
      split at e
      ·rename_i hd
       injection e with e
       subst e
       have hP := hx.pInv
       obtain ⟨ad, cap, hy, _⟩ := RepP.toSl (lc := lc) hP
       rw [hy] at hP ⊢
       have hcap : rows.length ≤ cap := by cases hP; assumption
       obtain ⟨q1, q2, q3, q4⟩ := bounds_ok (E := E) hh hl hcap hcap true rh rh0 rl rl0 w
       refine ⟨_, run q1, RepV.p_of ?_⟩
       exact hP.sub hd q2 (by omega)
      ·cases e
   ·rename_i rows k
    cases hh : hiOf hi rows.length rows.length with
    | none => rw [hh] at e; cases e
    | some hv =>
     cases hl : loOf lo hv with
     | none => rw [hh] at e; simp only at e; rw [hl] at e; cases e
     | some l =>
      rw [hh] at e; simp only at e; rw [hl] at e
      simp only at e
      split at e
      ·rename_i hd
       have hC := hx.slInv
       obtain ⟨ad, cap, hy, hcap⟩ : ∃ ad cap, y = .slice (some ad) rows.length cap ∧ rows.length ≤ cap := by cases hC; exact ⟨_, _, rfl, by assumption⟩
       rw [hy] at hC ⊢
       obtain ⟨q1, q2, q3, q4⟩ := bounds_ok (E := E) hh hl hcap hcap true rh rh0 rl rl0 w
       split at e
       ·rename_i hfull
        have fin : (∀ t p m, k = .own t p m → m = n) → ∃ r, (Instr.sliceAt t (.slice (some ad) rows.length cap) yl yh none).run E.P w = .ok r w ∧ RepV v lc (.sl (rows.drop l) k) r := by
         intro hk
         refine ⟨_, run q1, .a (.cell ?_)⟩
         have := hC.sub (n := n) hd (l := l) (by omega) hk
         rw [hfull]
         exact this
        split at e
        ·injection e with e
         subst e
         exact fin (fun t p m hk => by cases hk)
        ·rename_i t' p' m'
         split at e
         ·rename_i hm
          injection e with e
          subst e
          exact fin (fun t p m hk => by cases hk; exact hm)
         ·cases e
       ·cases hp : pvRows ((rows.take hv).drop l) with
        | none => rw [hp] at e; cases e
        | some xs =>
         rw [hp] at e
         injection e with e
         subst e
         exact ⟨_, run q1, RepV.p_of (hC.sub2 hd q2 (by omega) hp)⟩
      ·cases e
   ·rename_i id off len cap m
    cases hh : hiOf hi cap len with
    | none => rw [hh] at e; cases e
    | some hv =>
     cases hl : loOf lo hv with
     | none => rw [hh] at e; simp only at e; rw [hl] at e; cases e
     | some l =>
      rw [hh] at e; simp only at e; rw [hl] at e
      simp only at e
      split at e
      ·rename_i hmn
       injection e with e
       subst e
       have hC := hx.arrInv
       cases hC with
       | @arr _ _ _ _ _ c ad g1 g2 g3 g4 g5 g6 =>
        obtain ⟨q1, q2, q3, q4⟩ := bounds_ok (E := E) hh hl g6 (Nat.le_trans g5 g6) true rh rh0 rl rl0 w
        refine ⟨_, run q1, .a (.cell ?_)⟩
        have hadd : (if c = l then some ad else (some ad).map (·.add (l * n))) = some (if c = l then ad else ad.add (l * n)) := by split <;> rfl
        rw [hadd]
        refine .arr (by split; exact g1; rw [addr_eq g1]) g2 (by split; exact g3; rw [addr_eq g1]; exact g3) (fun hne => ?_) (by omega) (by omega)
        obtain ⟨g7, g8⟩ := g4 (by omega)
        rw [if_neg (by omega), addr_eq g1]
        simp only
        subst hmn
        refine ⟨by rw [g7], ?_⟩
        have : l * m + (c - l) * m = c * m := by rw [← Nat.add_mul]; congr 1; omega
        omega
      ·cases e
   ·cases e
 ·cases e
theorem step_slice (h : Rl E v0 w0 g0 v lc s a w) {t : TypeId} {p : Operand} {lo hi mx : Option Operand} (ho : o.op = .slice t p lo hi mx) {x : V} {s' : St} (e : stepV E s o = some (x, s')) : OpOk E v0 w0 g0 v lc a w o x s' := by
 cases mx with
 | some m => simp [stepV, ho] at e
 | none =>
  simp only [stepV, ho] at e
  split at e
  ·rename_i X l hh hp hl hhh
   cases hs : s.slice E t X l hh with
   | none => rw [hs] at e; cases e
   | some z =>
    rw [hs] at e
    injection e with e
    simp only [Prod.mk.injEq] at e
    obtain ⟨rfl, rfl⟩ := e
    obtain ⟨a1, a2⟩ := optEv_ok h hl
    obtain ⟨b1, b2⟩ := optEv_ok h hhh
    obtain ⟨r, q1, q2⟩ := slice_ok h hs (ev_rep h.W h.F hp) b1 b2 a1 a2
    exact OpOk.pure h (by simp [execOp, ho, q1]) q2
  ·cases e
end
end Go.Vm
set_option linter.unusedVariables false
namespace Go.Vm
open Go
section
variable {E : Env} {v0 : Vw} {w0 : World} {g0 : G} {v : Vw} {lc : Nat → Nat → Option Nat} {s : St} {a : Act} {w : World} {o : Oper}
theorem flatten_at {α : Type} {n : Nat} : ∀ {rows : List (List α)} {i j : Nat} {r : List α} {x : α}, (∀ r, r ∈ rows → r.length = n) → rows[i]? = some r → r[j]? = some x → rows.flatten[i * n + j]? = some x
  | [], i, j, r, x, _, hr, _ => by simp at hr
  | q :: rows, 0, j, r, x, h, hr, hx => by
    simp at hr; subst hr
    have := (List.getElem?_eq_some_iff.1 hx).1
    rw [List.flatten_cons, Nat.zero_mul, Nat.zero_add, List.getElem?_append_left this]
    exact hx
  | q :: rows, i + 1, j, r, x, h, hr, hx => by
    have hq := h q (by simp)
    have ih := flatten_at (rows := rows) (i := i) (j := j) (r := r) (x := x) (fun r hr => h r (by simp [hr])) (by simpa using hr) hx
    rw [List.flatten_cons, List.getElem?_append_right (by rw [hq, Nat.add_mul, Nat.one_mul]; omega)]
    rw [show (i + 1) * n + j - q.length = i * n + j by rw [hq, Nat.add_mul, Nat.one_mul]; omega]
    exact ih
theorem flatten_len {α : Type} {n : Nat} : ∀ {rows : List (List α)}, (∀ r, r ∈ rows → r.length = n) → rows.flatten.length = rows.length * n
  | [], _ => by simp
  | q :: rows, h => by
    have hq := h q (by simp)
    have ih := flatten_len (rows := rows) (fun r hr => h r (by simp [hr]))
    rw [List.flatten_cons, List.length_append, ih, hq, List.length_cons, Nat.add_mul, Nat.one_mul, Nat.add_comm]
theorem flatten_inv {α : Type} {n : Nat} : ∀ {rows : List (List α)} {k : Nat} {x : α}, (∀ r, r ∈ rows → r.length = n) → rows.flatten[k]? = some x → ∃ i j r, rows[i]? = some r ∧ r[j]? = some x ∧ k = i * n + j
  | [], k, x, _, hx => by simp at hx
  | q :: rows, k, x, h, hx => by
    have hq := h q (by simp)
    rw [List.flatten_cons] at hx
    by_cases hk : k < q.length
    · rw [List.getElem?_append_left hk] at hx
      exact ⟨0, k, q, rfl, hx, by simp⟩
    · rw [List.getElem?_append_right (by omega)] at hx
      obtain ⟨i, j, r, h1, h2, h3⟩ := flatten_inv (rows := rows) (fun r hr => h r (by simp [hr])) hx
      exact ⟨i + 1, j, r, by simpa using h1, h2, by rw [Nat.add_mul, Nat.one_mul]; omega⟩
theorem chunks_flatten (n : Nat) : ∀ (k : Nat) (cs : List V), cs.length = k * n → (chunks n k cs).flatten = cs
  | 0, cs, h => by simp at h; subst h; rfl
  | k + 1, cs, h => by
    rw [Nat.add_mul, Nat.one_mul] at h
    rw [chunks, List.flatten_cons, chunks_flatten n k (cs.drop n) (by simp; omega), List.take_append_drop]
structure Cells (v : Vw) (w : World) (n : Nat) (rows : List (List V)) (Y : Value) (ys : List Value) : Prop where
  len : ∀ (P : Program) (w' : World), (Builtin.lenOf Y).run P w' = .ok rows.length w'
  rep : RepL v rows.flatten ys
  run : ∀ (P : Program) (w' : World), w'.heap = w.heap → (Builtin.firstCells n rows.length Y).run P w' = .ok ys.toArray w'
theorem cells_of_block {rows : List (List V)} {n : Nat} {ad : Addr} {cap : Nat} {ys : List Value} (hr : RepL v rows.flatten ys) (hn : ∀ r, r ∈ rows → r.length = n) (hc : ∀ (j : Nat) (z : Value), ys[j]? = some z → w.cell? (ad.add j) = some z) :
    Cells v w n rows (.slice (some ad) rows.length cap) ys where
  len P w' := rfl
  rep := hr
  run P w' hw := by
    have hl : ys.length = rows.length * n := by rw [← hr.1, flatten_len hn]
    unfold Builtin.firstCells
    rw [← hl]
    exact run_loadCells_list w' ad ys (fun j z hz => by have := hc j z hz; simpa [World.cell?, hw] using this)
theorem RepC.cells (hW : WR E v s.g w) {rows : List (List V)} {k : SK} {Y : Value} {n : Nat} (h : RepC v (.sl rows k) Y) (hn : ∀ r, r ∈ rows → r.length = n) : ∃ ys, Cells v w n rows Y ys := by
  cases h with
  | @sl _ ad cap m _ f cs h1 h2 h3 h4 h5 h6 h7 h8 =>
    have key : ∀ k x, rows.flatten[k]? = some x → ∃ z, cs[ad.off + k]? = some z ∧ RepC v x z := by
      intro k x hx
      obtain ⟨i, j, r, e1, e2, e3⟩ := flatten_inv h3 hx
      rw [e3]
      exact ⟨_, h5 i j r x e1 e2, h6 i j r x e1 e2⟩
    refine ⟨(List.range rows.flatten.length).map fun k => (cs[ad.off + k]?).getD undef, cells_of_block ⟨by simp, fun i x y hx hy => ?_⟩ hn (fun j z hz => ?_)⟩
    · obtain ⟨z, z1, z2⟩ := key i x hx
      have := (List.getElem?_eq_some_iff.1 hx).1
      rw [List.getElem?_map, List.getElem?_range this] at hy
      simp only [Option.map_some, z1, Option.getD_some] at hy
      injection hy with hy
      subst hy
      exact z2
    · have hj : j < rows.flatten.length := by
        have := (List.getElem?_eq_some_iff.1 hz).1
        rw [List.length_map, List.length_range] at this
        exact this
      obtain ⟨z', z1, z2⟩ := key j _ (List.getElem?_eq_getElem hj)
      rw [List.getElem?_map, List.getElem?_range hj] at hz
      simp only [Option.map_some, z1, Option.getD_some] at hz
      injection hz with hz
      subst hz
      have hne : rows ≠ [] := by rintro rfl; simp at hj
      obtain ⟨C, e, fr, q1, q2⟩ := hW.sg _ _ (h4 hne)
      rw [addr_eq h1, cell_of q1]
      exact q2 _ _ z1
theorem RepP.toC {rows : List (List PV)} {Y : Value} {n : Nat} (hW : WR E v s.g w) (h : RepP v.sg (.sl rows) Y) (hn : ∀ r, r ∈ rows.map (·.map V.p) → r.length = n) : ∃ ys, Cells v w n (rows.map (·.map V.p)) Y ys := by
  cases h with
  | @sl _ ad cap m f cs h1 h2 h3 h4 h5 h6 =>
    have key : ∀ k x, (rows.map (·.map V.p)).flatten[k]? = some x → ∃ z, cs[ad.off + k]? = some z ∧ RepC v x z := by
      intro k x hx
      have h3' : ∀ r, r ∈ rows.map (·.map V.p) → r.length = m := by
        intro r hr
        obtain ⟨q, hq, rfl⟩ := List.mem_map.1 hr
        simpa using h3 q hq
      obtain ⟨i, j, r, e1, e2, e3⟩ := flatten_inv h3' hx
      rw [List.getElem?_map] at e1
      cases hq : rows[i]? with
      | none => rw [hq] at e1; cases e1
      | some q =>
        rw [hq] at e1
        injection e1 with e1
        subst e1
        rw [List.getElem?_map] at e2
        cases hp : q[j]? with
        | none => rw [hp] at e2; cases e2
        | some p =>
          rw [hp] at e2
          injection e2 with e2
          subst e2
          rw [e3]
          exact ⟨_, h5 i j q p hq hp, .p (h6 i j q p hq hp)⟩
    have hl : rows.length = (rows.map (·.map V.p)).length := by simp
    rw [hl]
    refine ⟨(List.range (rows.map (·.map V.p)).flatten.length).map fun k => (cs[ad.off + k]?).getD undef, cells_of_block ⟨by simp, fun i x y hx hy => ?_⟩ hn (fun j z hz => ?_)⟩
    · obtain ⟨z, z1, z2⟩ := key i x hx
      have := (List.getElem?_eq_some_iff.1 hx).1
      rw [List.getElem?_map, List.getElem?_range this] at hy
      simp only [Option.map_some, z1, Option.getD_some] at hy
      injection hy with hy
      subst hy
      exact z2
    · have hj : j < (rows.map (·.map V.p)).flatten.length := by
        have := (List.getElem?_eq_some_iff.1 hz).1
        rw [List.length_map, List.length_range] at this
        exact this
      obtain ⟨z', z1, z2⟩ := key j _ (List.getElem?_eq_getElem hj)
      rw [List.getElem?_map, List.getElem?_range hj] at hz
      simp only [Option.map_some, z1, Option.getD_some] at hz
      injection hz with hz
      subst hz
      have hne : rows ≠ [] := by rintro rfl; simp at hj
      obtain ⟨C, e, fr, q1, q2⟩ := hW.sg _ _ (h4 hne)
      rw [addr_eq (h1 hne), cell_of q1]
      exact q2 _ _ z1
theorem rows_ok (h : Rl E v0 w0 g0 v lc s a w) {y : V} {Y : Value} {n : Nat} {rows : List (List V)} (e : s.rows n y = some rows) (hy : RepV v lc y Y) (hn : ∀ r, r ∈ rows → r.length = n) : ∃ ys, Cells v w n rows Y ys := by
  unfold St.rows at e
  split at e
  · injection e with e; subst e
    have := hy.pInv; cases this
    exact ⟨[], ⟨fun _ _ => rfl, RepL.nil, fun _ _ _ => rfl⟩⟩
  · injection e with e; subst e
    exact RepP.toC h.W hy.pInv hn
  · rename_i b
    injection e with e; subst e
    rw [RepA.str_inv hy]
    refine ⟨b.data.toList.map fun c => .int .u8 c.toNat, ⟨fun _ _ => ?_, ?_, fun P w' _ => ?_⟩⟩
    · simp [bytesRows, Builtin.lenOf]
    · have : (bytesRows b).flatten = b.data.toList.map fun c => V.p (.int .u8 c.toNat) := by
        unfold bytesRows
        generalize b.data.toList = l
        induction l with
        | nil => rfl
        | cons c l ih => simp [ih]
      rw [this]
      refine ⟨by simp, fun i x y hx hy => ?_⟩
      rw [List.getElem?_map] at hx hy
      cases hc : b.data.toList[i]? with
      | none => rw [hc] at hx; cases hx
      | some c =>
        rw [hc] at hx hy
        injection hx with hx
        injection hy with hy
        subst hx hy
        exact .p .int
    · simp only [Builtin.firstCells, Sem.run_pure]
      congr 1
      apply Array.ext'
      simp [bytesRows]
  · injection e with e; subst e
    exact RepC.cells h.W hy.slInv hn
  · rename_i id off len cap m
    split at e
    · rename_i cs hob
      cases ht : take? cs off (len * n) with
      | none => rw [ht] at e; cases e
      | some ds =>
        rw [ht] at e
        injection e with e
        subst e
        have hC := hy.arrInv
        generalize hx : w.heap[v.rho id]? = X at *
        have ho := h.W.obj id _ hob
        rw [hx] at ho
        cases ho with
        | @cells _ ds2 C el fr q3 q4 =>
          unfold take? at ht
          split at ht
          · rename_i hle
            injection ht with ht
            subst ht
            have hdl : ((cs.drop off).take (len * n)).length = len * n := by simp; omega
            cases hC with
            | @arr _ _ _ _ _ c ad g1 g2 g3 g4 g5 g6 =>
              have hl : len = (chunks n len ((cs.drop off).take (len * n))).length := (chunks_length _ _ _).symm
              have hrep : RepL v (chunks n len ((cs.drop off).take (len * n))).flatten ((C.toList.drop off).take (len * n)) := by
                rw [chunks_flatten n len _ hdl]
                have := (q4.drop off).take (len * n)
                rw [List.drop_append_of_le_length (by omega), List.take_append_of_le_length (by simp; omega)] at this
                exact this
              have := cells_of_block (w := w) (ad := ad) (cap := c) hrep hn (fun j z hz => ?_)
              · rw [← hl] at this
                exact ⟨_, this⟩
              · rw [List.getElem?_take] at hz
                split at hz
                · rename_i hj
                  rw [List.getElem?_drop, Array.getElem?_toList] at hz
                  have hcap : c ≠ 0 := by
                    rintro rfl
                    have : len = 0 := by omega
                    subst this
                    simp at hj
                  rw [addr_eq g1, g3, (g4 hcap).1, cell_of hx]
                  exact hz
                · cases hz
          · cases ht
    · cases e
  · cases e
theorem grow_le (n : Nat) : ∀ (k c : Nat), 256 ≤ c → c < n → Builtin.growBy n k c ≤ 2 * n
  | 0, c, h1, h2 => by simp [Builtin.growBy]; omega
  | k + 1, c, h1, h2 => by
    unfold Builtin.growBy
    rw [if_neg (by omega)]
    by_cases h3 : c + (c + 768) / 4 < n
    · exact grow_le n k _ (by omega) h3
    · cases k with
      | zero => simp [Builtin.growBy]; omega
      | succ k => unfold Builtin.growBy; rw [if_pos (by omega)]; omega
theorem nextcap_le {need cap : Nat} (h : cap < need) : Builtin.nextslicecap need cap ≤ 2 * need := by
  unfold Builtin.nextslicecap
  split
  · omega
  · split
    · omega
    · exact grow_le need 4 cap (by omega) h
theorem run_append_grow {P : Program} {st el ut : TypeId} {i : TypeInfo} {d : TypeDesc} (hu : P.underlying st = some (.slice el)) (hi : P.info? el = some i) {ats : Array TypeId} (h0 : ats[0]? = some st) (h1 : ats[1]? = some ut) (hd : P.underlying ut = some d)
    (hdn : d = .string ∨ ∃ e, d = .slice e) {base : Option Addr} {sLen sCap m : Nat} {Y : Value} {zv : Value} (hz : ∀ w, (zeroValue el).run P w = .ok zv w) {os ns : List Value} (w : World) (hlen : ∀ w, (Builtin.lenOf Y).run P w = .ok m w)
    (hold : ∀ w', w'.heap = w.heap → (Builtin.firstCells i.size sLen (.slice base sLen sCap)).run P w' = .ok os.toArray w') (hnew : ∀ w', w'.heap = w.heap → (Builtin.firstCells i.size m Y).run P w' = .ok ns.toArray w')
    (hroom : sCap < sLen + m) (hb : (sLen + m) * i.bytes ≤ 2 ^ 47) (hb0 : i.bytes ≠ 0) (ty : TypeId) :
    ∃ (cap : Nat), sLen + m ≤ cap ∧ (Builtin.append_ ats ty #[.slice base sLen sCap, Y]).run P w =
      .ok (.slice (some ⟨w.heap.size, 0, none⟩) (sLen + m) cap) { w with drawn := w.drawn + 1, heap := w.heap.push (.cells (os.toArray ++ ns.toArray ++ Builtin.zeroCells zv.cells (cap - (sLen + m))) el) } := by
  refine ⟨(Question.appendCap (sLen + m) sCap el).cut (w.tape w.drawn (.appendCap (sLen + m) sCap el)), by simp [Question.cut], ?_⟩
  rcases hdn with rfl | ⟨e0, rfl⟩
  all_goals
   unfold Builtin.append_
   simp only [h0, h1, show (#[Value.slice base sLen sCap, Y] : Array Value)[0]? = some (.slice base sLen sCap) from rfl, show (#[Value.slice base sLen sCap, Y] : Array Value)[1]? = some Y from rfl,
     Sem.run_bind, run_underlying hu, run_underlying hd, Result.andThen_ok, r_size hi, Sem.run_pure, Bool.false_eq_true, if_false, hlen, Bool.not_false, if_true]
   rw [if_neg (by omega)]
   have hnc := nextcap_le hroom
   have hle : Builtin.nextslicecap (sLen + m) sCap * i.bytes ≤ 2 ^ 48 := by
    have : Builtin.nextslicecap (sLen + m) sCap * i.bytes ≤ 2 * (sLen + m) * i.bytes := Nat.mul_le_mul_right _ hnc
    rw [Nat.mul_assoc] at this
    omega
   have hc1 : ¬ (((sLen + m : Nat) : Int) > IntKind.i64.max ∧ (False ∨ i.bytes = 0)) := by
    rintro ⟨_, h | h⟩
    · exact h
    · exact hb0 h
   simp only [Sem.run_bind, r_info hi, Result.andThen_ok, Sem.run_ite]
   rw [if_neg hc1, if_neg (by omega)]
   simp only [Sem.run_bind, run_choose, Question.forced, Bool.false_eq_true, if_false, Result.andThen_ok, r_info hi, run_askRoom]
   rw [hold { w with drawn := w.drawn + 1 } rfl]
   simp only [Result.andThen_ok]
   rw [hnew { w with drawn := w.drawn + 1 } rfl]
   simp only [Result.andThen_ok, hz, newRow, Sem.run_bind, run_newObj, Sem.run_pure]
theorem run_append_in {P : Program} {st el ut : TypeId} {i : TypeInfo} {d : TypeDesc} (hu : P.underlying st = some (.slice el)) (hi : P.info? el = some i) {ats : Array TypeId} (h0 : ats[0]? = some st) (h1 : ats[1]? = some ut) (hd : P.underlying ut = some d)
    (hdn : d = .string ∨ ∃ e, d = .slice e) {ad : Addr} {sLen sCap m : Nat} {Y : Value} {ns : List Value} (w w' : World) (hlen : ∀ w, (Builtin.lenOf Y).run P w = .ok m w)
    (hnew : ∀ w', w'.heap = w.heap → (Builtin.firstCells i.size m Y).run P w' = .ok ns.toArray w')
    (hroom : sLen + m ≤ sCap) (hs : (storeCells (ad.add (sLen * i.size)) ns).run P w = .ok () w') (ty : TypeId) :
    (Builtin.append_ ats ty #[.slice (some ad) sLen sCap, Y]).run P w = .ok (.slice (some ad) (sLen + m) sCap) w' := by
  rcases hdn with rfl | ⟨e0, rfl⟩
  all_goals
   unfold Builtin.append_
   simp only [h0, h1, show (#[Value.slice (some ad) sLen sCap, Y] : Array Value)[0]? = some (.slice (some ad) sLen sCap) from rfl, show (#[Value.slice (some ad) sLen sCap, Y] : Array Value)[1]? = some Y from rfl,
     Sem.run_bind, run_underlying hu, run_underlying hd, Result.andThen_ok, r_size hi, Sem.run_pure, Bool.false_eq_true, if_false, hlen, Bool.not_false, if_true]
   rw [if_pos hroom]
   simp only [Sem.run_bind]
   rw [hnew _ rfl]
   simp only [Result.andThen_ok, Sem.run_bind, hs, Sem.run_pure]
theorem run_append_none {P : Program} {st el ut : TypeId} {i : TypeInfo} {d : TypeDesc} (hu : P.underlying st = some (.slice el)) (hi : P.info? el = some i) {ats : Array TypeId} (h0 : ats[0]? = some st) (h1 : ats[1]? = some ut) (hd : P.underlying ut = some d)
    (hdn : d = .string ∨ ∃ e, d = .slice e) {base : Option Addr} {sLen sCap : Nat} {Y : Value} (w : World) (hlen : ∀ w, (Builtin.lenOf Y).run P w = .ok 0 w)
    (hnew : ∀ w', w'.heap = w.heap → (Builtin.firstCells i.size 0 Y).run P w' = .ok #[] w') (hroom : sLen ≤ sCap) (ty : TypeId) :
    (Builtin.append_ ats ty #[.slice base sLen sCap, Y]).run P w = .ok (.slice base sLen sCap) w := by
  rcases hdn with rfl | ⟨e0, rfl⟩
  all_goals
   unfold Builtin.append_
   simp only [h0, h1, show (#[Value.slice base sLen sCap, Y] : Array Value)[0]? = some (.slice base sLen sCap) from rfl, show (#[Value.slice base sLen sCap, Y] : Array Value)[1]? = some Y from rfl,
     Sem.run_bind, run_underlying hu, run_underlying hd, Result.andThen_ok, r_size hi, Sem.run_pure, Bool.false_eq_true, if_false, hlen, Bool.not_false, if_true]
   rw [if_pos (by omega)]
   simp only [Sem.run_bind]
   rw [hnew _ rfl]
   cases base with
   | none => rfl
   | some ad => rfl
end
end Go.Vm
set_option linter.unusedVariables false
namespace Go.Vm
open Go
theorem Rl.killO {E : Env} {v0 : Vw} {w0 : World} {g0 : G} {v : Vw} {lc : Nat → Nat → Option Nat} {s : St} {a : Act} {w : World} (B : Base v0 w0 g0) (h : Rl E v0 w0 g0 v lc s a w)
  {id : Nat} (hid : id < s.g.objs.length) : Rl E v0 w0 g0 v lc { s with g := s.g.setObj id .dead } a w := by
 have hn : v.nobj = s.g.objs.length := h.W.nobj
 have W := h.W
 have S := h.S
 have olds : ∀ {i : Nat} {ob : Ob}, (s.g.objs.set id .dead)[i]? = some ob → ob.live = true → s.g.objs[i]? = some ob ∧ i ≠ id := by
  intro i ob e hl
  by_cases hi : i = id
  ·subst hi
   rw [List.getElem?_set_self hid] at e
   cases e
   cases hl
  ·rw [List.getElem?_set_ne (fun h => hi h.symm)] at e; exact ⟨e, hi⟩
 refine ⟨⟨W.sg, ?_, W.toks, ?_, ?_, W.osz, W.osg, W.tk, W.tinj, W.glob⟩, ⟨h.F.nt, h.F.df, h.F.tm, h.F.rg, h.F.rd, h.F.lb⟩, ?_, h.H⟩
 ·simp [G.setObj, hn]
 ·intro i ob e
  by_cases hi : i = id
  ·subst hi
   simp [G.setObj, hid] at e
   subst e
   have := W.rho_lt (show i < v.nobj by omega)
   rw [Array.getElem?_eq_getElem this]
   exact .dead
  ·have e1 : s.g.objs[i]? = some ob := by
    simp only [G.setObj] at e
    rw [List.getElem?_set_ne (fun h => hi h.symm)] at e
    exact e
   exact W.obj i ob e1
 ·intro i j oi oj hi hj hoi hoj e
  exact W.inj i j _ _ (olds hi hoi).1 (olds hj hoj).1 hoi hoj e
 ·refine ⟨S.size, S.os, S.tape, S.out, S.ext, ?_, S.kap, S.kapo, S.kept, S.sg, S.other, ?_, S.wt, ?_, S.toks⟩
  ·intro i h1 h2
   rcases S.rho i h1 h2 with q | ⟨j, q1, q2, q3⟩
   ·exact .inl q
   ·exact .inr ⟨j, Nat.le_trans (Nat.min_le_left _ _) q1, q2, q3⟩
  ·show min s.g.wo id ≤ g0.objs.length
   have := S.wo
   omega
  ·intro i hi
   have hi' : i < s.g.wo ∧ i < id := by simpa [G.setObj, Nat.lt_min] using hi
   have h1 := S.objs i hi'.1
   refine ⟨?_, h1.2⟩
   show (s.g.objs.set id .dead)[i]? = _
   rw [List.getElem?_set_ne (by omega)]
   exact h1.1
theorem Rl.aliasO {E : Env} {v0 : Vw} {w0 : World} {g0 : G} {v : Vw} {lc : Nat → Nat → Option Nat} {s : St} {a : Act} {w w' : World} (B : Base v0 w0 g0) (h : Rl E v0 w0 g0 v lc s a w)
  {id : Nat} (hid : id < s.g.objs.length) (hwo : s.g.wo ≤ id) (hne : ∀ i o, s.g.objs[i]? = some o → o.live = true → v.rho i ≠ v.rho id) {o : Ob} {C C' : Array Value} {e e' : TypeId} {fr fr' : Nat × Nat}
  (hc : w.heap[v.rho id]? = some (.cells C e fr)) (hs : C'.size = C.size) (k : Wrote w w' (v.rho id) (.cells C' e' fr')) (ho : RepO (v.addObj (v.rho id) C.size) o (some (.cells C' e' fr'))) :
  Ext v (v.addObj (v.rho id) C.size) ∧ Rl E v0 w0 g0 (v.addObj (v.rho id) C.size) lc { s with g := s.g.newObj o } a w' := by
 have hx := Ext.addObj v (v.rho id) C.size
 have hn : v.nobj = s.g.objs.length := h.W.nobj
 have hid' : id < v.nobj := by omega
 have hsg := h.W.osg id hid'
 have W := h.W
 have S := h.S
 have lt : ∀ {k : Nat} {ob : Ob}, (s.g.newObj o).objs[k]? = some ob → k < v.nobj + 1 := by
  intro k ob hk
  have := (List.getElem?_eq_some_iff.1 hk).1
  simp [G.newObj] at this
  omega
 have old : ∀ {k : Nat} {ob : Ob}, (s.g.newObj o).objs[k]? = some ob → k ≠ v.nobj → s.g.objs[k]? = some ob := by
  intro k ob hk hne
  have := lt hk
  simpa [G.newObj, List.getElem?_append_left (show k < s.g.objs.length by omega)] using hk
 have hrho : ∀ i, i < v.nobj → (v.addObj (v.rho id) C.size).rho i = v.rho i := fun i hi => hx.rho i hi
 have hrn : (v.addObj (v.rho id) C.size).rho v.nobj = v.rho id := by simp [Vw.addObj, upd]
 refine ⟨hx, ⟨⟨?_, ?_, ?_, ?_, ?_, ?_, ?_, ?_, ?_, ?_⟩, ?_, ?_, h.H⟩⟩
 ·intro c ds e
  have : c ≠ v.rho id := by
   rintro rfl
   have e' : v.sg (v.rho id) = some ds := e
   rw [hsg] at e'; cases e'
  rw [k.other c this]
  exact W.sg c ds e
 ·simp [Vw.addObj, G.newObj, hn]
 ·exact W.toks
 ·intro i ob e
  by_cases hi : i = v.nobj
  ·subst hi
   rw [hn] at e
   simp [G.newObj] at e
   subst e
   rw [hrn, k.at_]
   exact ho
  ·have e1 := old e hi
   have hlt : i < v.nobj := by have := lt e; omega
   rw [hrho i hlt]
   by_cases hl : ob.live = true
   ·rw [k.other _ (hne i ob e1 hl)]
    exact (W.obj i ob e1).ext hx
   ·cases ob with
    | dead =>
     have := W.rho_lt hlt
     rw [← k.size] at this
     rw [Array.getElem?_eq_getElem this]
     exact .dead
    | _ => exact absurd rfl hl
 ·intro i j oi oj hi hj hoi hoj e
  have hli := lt hi
  have hlj := lt hj
  by_cases h2 : i = v.nobj
  ·by_cases h3 : j = v.nobj
   ·omega
   ·rw [h2, hrn, hrho j (by omega)] at e
    exact absurd e.symm (hne j oj (old hj h3) hoj)
  ·by_cases h3 : j = v.nobj
   ·rw [h3, hrn, hrho i (by omega)] at e
    exact absurd e (hne i oi (old hi h2) hoi)
   ·rw [hrho i (by omega), hrho j (by omega)] at e
    exact W.inj i j oi oj (old hi h2) (old hj h3) hoi hoj e
 ·intro i hi C2 e2 fr2 hc2
  have hi' : i < v.nobj + 1 := hi
  by_cases h2 : i = v.nobj
  ·subst h2
   rw [hrn, k.at_] at hc2
   cases hc2
   simp [Vw.addObj, upd, hs]
  ·rw [hrho i (by omega)] at hc2
   rw [hx.osz i (by omega)]
   by_cases hb : v.rho i = v.rho id
   ·rw [hb, k.at_] at hc2
    cases hc2
    rw [hs]
    exact W.osz i (by omega) C e fr (by rw [hb]; exact hc)
   ·exact W.osz i (by omega) C2 e2 fr2 (by rw [← k.other _ hb]; exact hc2)
 ·intro i hi
  have hi' : i < v.nobj + 1 := hi
  by_cases h2 : i = v.nobj
  ·subst h2; rw [hrn]; exact hsg
  ·rw [hrho i (by omega)]; exact W.osg i (by omega)
 ·intro i hi
  obtain ⟨C2, e2, fr2, cs, h1, h2, h3, h4⟩ := W.tk i hi
  have : v.kap i ≠ v.rho id := by intro e; rw [e, hsg] at h4; cases h4
  exact ⟨C2, e2, fr2, cs, by show w'.heap[v.kap i]? = _; rw [k.other _ this]; exact h1, h2, h3, h4⟩
 ·exact W.tinj
 ·exact fun gid row e => (W.glob gid row e).to hx fun C2 el fr2 cs h1 h2 => ⟨C2, el, fr2, by rw [k.other _ (by rintro rfl; rw [hsg] at h1; cases h1)]; exact h2, rfl⟩
 ·have F := h.F.ext hx (fun t g cs b _ _ e => e) (fun t g cs b e1 e2 id2 hid2 hle => by
   have : id2 = v.nobj := by simp [Vw.addObj] at hid2; omega
   subst this
   obtain ⟨b', C', el, fr', q1, q2, q3, q4, q5, q6⟩ := h.F.rg t g cs e1
   rw [e2] at q1
   injection q1 with q1
   subst q1
   rw [hrn]
   exact q6 id hid')
  refine ⟨F.nt, F.df, F.tm, ?_, F.rd, F.lb⟩
  intro t g ds e1
  obtain ⟨b2, C2, el2, fr2, p1, p2, p3, p4, p5, p6⟩ := F.rg t g ds e1
  refine ⟨b2, C2, el2, fr2, p1, ?_, p3, p4, p5, p6⟩
  have := p6 id (by simp [Vw.addObj]; omega)
  rw [hrho id hid'] at this
  rw [k.other _ (fun e => this e.symm)]
  exact p2
 ·have hk : ∀ i, i < v0.toks.length → i < s.g.wt → v0.kap i ≠ v.rho id := by
   intro i hi hiw e
   have h1 := S.kept i hiw
   obtain ⟨_, _, _, cs, _, _, _, h4⟩ := W.tk i (Nat.lt_of_lt_of_le hi S.ext.tok)
   rw [h1, e, hsg] at h4
   cases h4
  have hfr : w0.heap.size ≤ v.rho id ∨ ∃ j, s.g.wo ≤ j ∧ j < v0.nobj ∧ v.rho id = v0.rho j := by
   by_cases hlt : id < v0.nobj
   ·exact .inr ⟨id, hwo, hlt, S.ext.rho id hlt⟩
   ·exact S.rho id (by omega) hid'
  refine ⟨by rw [k.size]; exact S.size, k.os.trans S.os, k.tape.trans S.tape, k.out.trans S.out, S.ext.trans hx, ?_, S.kap, S.kapo, S.kept, S.sg, ?_, S.wo, S.wt, ?_, ?_⟩
  ·intro i h1 h2
   have h2' : i < v.nobj + 1 := h2
   by_cases h3 : i = v.nobj
   ·subst h3; rw [hrn]; exact hfr
   ·rw [hrho i (by omega)]; exact S.rho i h1 (by omega)
  ·intro c hc h1 h2
   have : c ≠ v.rho id := by
    rintro rfl
    rcases hfr with q | ⟨j, q1, q2, q3⟩
    ·omega
    ·exact h1 j q2 q3.symm
   exact (k.other c this).trans (S.other c hc h1 h2)
  ·intro i hi
   have hiw : i < s.g.wo := hi
   have h1 := S.objs i hiw
   have hlt : i < v0.nobj := by rw [B.nobj]; exact Nat.lt_of_lt_of_le hiw S.wo
   have hil : i < s.g.objs.length := by omega
   refine ⟨?_, fun o1 e1 e2 => ?_⟩
   ·show (s.g.objs ++ [o])[i]? = _
    rw [List.getElem?_append_left hil]
    exact h1.1
   ·have h3 : v0.rho i ≠ v.rho id := by
     rw [← S.ext.rho i hlt]
     exact hne i o1 (by rw [h1.1]; exact e1) e2
    exact (k.other _ h3).trans (h1.2 o1 e1 e2)
  ·intro i hi
   have h1 := S.toks i hi
   have hlt : i < v0.toks.length := by rw [B.toks]; exact Nat.lt_of_lt_of_le hi S.wt
   exact ⟨h1.1, (k.other _ (hk i hlt hi)).trans h1.2.1, h1.2.2⟩
end Go.Vm
