/- Part 19 of the texts that the claim leans on: a judgement on the program over plain values, its soundness, and contracts of functions. -/
import Derived.Test.YtmknnanbmkmnjaaGreatDoorW18
set_option linter.unusedVariables false
set_option linter.unusedSimpArgs false
set_option linter.unusedVariables false
namespace Go.Vm
open Go Go.Proofs
structure L2 {α β : Type} (R : α → β → Prop) (l : List α) (m : List β) : Prop where
 len : l.length = m.length
 at_ : ∀ (i : Nat) (a : α) (c : β), l[i]? = some a → m[i]? = some c → R a c
theorem L2.nil {α β : Type} {R : α → β → Prop} : L2 R [] [] := ⟨rfl, fun i a c h => by simp at h⟩
theorem L2.snoc {α β : Type} {R : α → β → Prop} {l : List α} {m : List β} (h : L2 R l m) {a : α} {c : β} (hr : R a c) : L2 R (l ++ [a]) (m ++ [c]) := by
 refine ⟨by simp [h.len], fun i a' c' ha hc => ?_⟩
 have hl := h.len
 by_cases hi : i < l.length
 ·rw [List.getElem?_append_left hi] at ha
  rw [List.getElem?_append_left (by omega)] at hc
  exact h.at_ i a' c' ha hc
 ·rw [List.getElem?_append_right (by omega)] at ha hc
  rw [hl] at ha
  obtain ⟨n, hn⟩ : ∃ n, i - m.length = n := ⟨_, rfl⟩
  rw [hn] at ha hc
  cases n with
  | zero => simp at ha hc; subst ha hc; exact hr
  | succ n => simp at ha
theorem L2.cons {α β : Type} {R : α → β → Prop} {a : α} {c : β} {l : List α} {m : List β} (h : L2 R (a :: l) (c :: m)) : R a c ∧ L2 R l m :=
 ⟨h.at_ 0 a c rfl rfl, by have := h.len; simpa using this, fun i x y hx hy => h.at_ (i + 1) x y (by simpa using hx) (by simpa using hy)⟩
theorem L2.mapR {α : Type} {R : List V → α → Prop} {f : α → List PV} {F : V → Option PV} (hF : ∀ r a, R r a → mapO F r = some (f a)) : ∀ {l : List (List V)} {m : List α}, L2 R l m → Vm.mapR F l = some (m.map f)
 | [], [], _ => rfl
 | [], _ :: _, h => by have := h.len; simp at this
 | _ :: _, [], h => by have := h.len; simp at this
 | r :: l, a :: m, h => by
  have := L2.mapR hF h.cons.2
  simp only [Vm.mapR, hF r a h.cons.1, this, List.map_cons]
def clA (cls : List Int) (k : Int) : Int := cls.getD k.toNat 0
def idxI : List Int → Int → Nat
 | [], _ => 0
 | x :: l, c => if c = x then 0 else idxI l c + 1
def addC (cls : List Int) (o : List Int) (k : Int) : List Int := if clA cls k ∈ o.map (clA cls) then o else o ++ [k]
def kidStep (cls : List Int) (p : List Int × List Int) (k : Int) : List Int × List Int := (addC cls p.1 k, p.2 ++ [((idxI ((addC cls p.1 k).map (clA cls)) (clA cls k) : Nat) : Int)])
def kidsF (cls : List Int) (o ks : List Int) : List Int × List Int := ks.foldl (kidStep cls) (o, [])
def headStep (cls : List Int) (p : List Int × List Head) (h : Head) : List Int × List Head := ((kidsF cls p.1 h.kids.l).1, p.2 ++ [⟨h.kind, h.names, Sl.of (kidsF cls p.1 h.kids.l).2, h.op⟩])
def headsF (cls : List Int) (o : List Int) (hs : List Head) : List Int × List Head := hs.foldl (headStep cls) (o, [])
abbrev Stand := List (Int × List Int)
def standAdd : Stand → Int → Int → Stand
 | [], v, a => [(v, [a])]
 | x :: st, v, a => if v = x.1 then (v, x.2 ++ [a]) :: st else x :: standAdd st v a
def standV (D : List Int) (a : Int) (st : Stand) (vs : List Int) : Stand := vs.foldl (fun st v => if v ∈ D then st else standAdd st v a) st
structure NState where
 ord : List Int
 outs : List (Bool × List Head)
 st : Stand
def stepN (L : List StateP) (cls D : List Int) (a : Nat) (x : NState) : NState := match L[(x.ord.getD a 0).toNat]? with
 | none => x
 | some s => ⟨(headsF cls x.ord s.heads.l).1, x.outs ++ [(s.plus, (headsF cls x.ord s.heads.l).2)], standV D a x.st s.vars.l⟩
def normF (L : List StateP) (cls D : List Int) : Nat → Nat → NState → NState
 | 0, _, x => x
 | m + 1, a, x => if a < x.ord.length then normF L cls D m (a + 1) (stepN L cls D a x) else x
noncomputable def normN (L : List StateP) (root : Int) : NState := normF L (classL L root) (idleD (idleB L root) L) (L.length + 3) 0 ⟨[root], [], []⟩
def varAdd (vs : List (List Int)) (v : Int) (l : List Int) : List (List Int) := l.foldl (fun vs i => vs.set i.toNat (vs.getD i.toNat [] ++ [v])) vs
def varsF (R : List (List Int)) (n : Nat) : List (List Int) := R.zipIdx.foldl (fun vs x => varAdd vs x.2 x.1) (List.replicate n [])
def rowsN (x : NState) : List (List Int) := compU (srtL (x.st.map (·.2))) x.st.length
def statesN (outs : List (Bool × List Head)) (vs : List (List Int)) : List StateP := outs.zipIdx.map fun x => ⟨x.1.1, Sl.of x.1.2, Sl.of (vs.getD x.2 [])⟩
noncomputable def normalS (L : List StateP) (root : Int) : List StateP := statesN (normN L root).outs (varsF (rowsN (normN L root)) (normN L root).outs.length)
noncomputable def normalV (L : List StateP) (root : Int) : V := if autoB L root = 0 then .tup [.agg ((AutoP.enc (Sl.of (normalS L root)) 0).map .p), .p (.int .i64 0)] else .tup [.agg [.p .nilsl, .p (.int .i64 0)], .p (.int .i64 (autoB L root))]
structure OrdOk (n : Nat) (cls : List Int) (o : List Int) : Prop where
 nodup : (o.map (clA cls)).Nodup
 rng : ∀ k, k ∈ o → 0 ≤ k ∧ k < n
 ne : 0 < o.length
theorem OrdOk.add {n : Nat} {cls o : List Int} {k : Int} (h : OrdOk n cls o) (h0 : 0 ≤ k ∧ k < n) : OrdOk n cls (addC cls o k) := by
 unfold addC
 split
 ·exact h
 ·rename_i hk
  refine ⟨?_, fun q hq => ?_, by have := h.ne; simp⟩
  ·rw [List.map_append, List.nodup_append]
   refine ⟨h.nodup, by simp, fun a ha b hb => ?_⟩
   simp only [List.map_cons, List.map_nil, List.mem_singleton] at hb
   subst hb; rintro rfl; exact hk ha
  ·rcases List.mem_append.1 hq with hq | hq
   ·exact h.rng q hq
   ·simp only [List.mem_singleton] at hq; subst hq; exact h0
theorem OrdOk.len {n : Nat} {cls o : List Int} {cnt : Nat} (h : OrdOk n cls o) (hc : ClsOk n cls cnt) : o.length ≤ n + 1 := by
 have h1 : (o.map (clA cls)).length ≤ n + 1 := nodup_le h.nodup fun k hk => by
  obtain ⟨q, _, rfl⟩ := List.mem_map.1 hk
  have := hc.at_ (i := q.toNat)
  unfold clA
  push_cast
  omega
 simpa using h1
theorem classF_ok {base : List ByteArray} {L : List StateP} : ∀ (m : Nat) (cls : List Int) (cnt : Nat), ClsOk L.length cls cnt → ∃ cnt', ClsOk L.length (classF base L m cls cnt) cnt'
 | 0, cls, cnt, h => ⟨cnt, h⟩
 | m + 1, cls, cnt, h => by
  unfold classF
  split
  ·exact ⟨_, h.next⟩
  ·exact classF_ok m _ _ h.next
theorem classL_ok (L : List StateP) (root : Int) : ∃ cnt, ClsOk L.length (classL L root) cnt := classF_ok _ _ _ ClsOk.start
def esC (l : List Int) : List (PV × V × Nat) := l.zipIdx.map fun x => (.int .i64 x.1, .p (.int .i64 x.2), x.2)
theorem esC_ok (l : List Int) : (esC l).all (fun e => keyOk (.int .i64) e.1) = true := by
 rw [List.all_eq_true]
 intro e he
 obtain ⟨x, _, rfl⟩ := List.mem_map.1 he
 rfl
theorem find_esC (l : List Int) (s : Int) : findKey (esC l) (.int .i64 s) = if s ∈ l then some (V.p (.int .i64 (idxI l s : Nat))) else none := by
 have key : ∀ (l : List Int) (n : Nat), findKey ((l.zipIdx n).map fun x => ((.int .i64 x.1, .p (.int .i64 x.2), x.2) : PV × V × Nat)) (.int .i64 s) = if s ∈ l then some (V.p (.int .i64 ((n + idxI l s : Nat) : Int))) else none := by
  intro l
  induction l with
  | nil => intro n; simp [findKey]
  | cons a l ih =>
   intro n
   simp only [List.zipIdx_cons, List.map_cons, findKey, keyEq, List.mem_cons, idxI]
   by_cases h : s = a
   ·simp [h]
   ·have : (s == a) = false := by simpa using h
    simp only [this, Bool.and_false, Bool.false_eq_true, if_false, h, false_or]
    rw [ih (n + 1)]
    split <;> simp <;> omega
 have := key l 0
 simpa [esC] using this
theorem findC (l : List Int) (s : Int) : (match findKey (esC l) (.int .i64 s) with | some v => (if true then .tup [v, .p (.bool true)] else v) | none => (if true then .tup [V.p (.int .i64 0), .p (.bool false)] else V.p (.int .i64 0))) = V.tup [.p (.int .i64 (if s ∈ l then (idxI l s : Nat) else 0)), .p (.bool (decide (s ∈ l)))] := by
 rw [find_esC]
 by_cases h : s ∈ l <;> simp [h]
theorem esC_put {l : List Int} {s : Int} (h : s ∉ l) : Ob.map (insK (esC l) (.int .i64 s) (.p (.int .i64 (l.length : Nat))) l.length) (insC (esC l) (.int .i64 s) l.length) = .map (esC (l ++ [s])) (l ++ [s]).length := by
 unfold insK insC
 rw [find_esC, if_neg h]
 simp [esC, List.zipIdx_append]
theorem idxI_new {l : List Int} {k : Int} (h : k ∉ l) : idxI (l ++ [k]) k = l.length := by
 induction l with
 | nil => simp [idxI]
 | cons y l ih =>
  simp only [List.cons_append, idxI]
  have hx : k ≠ y := fun e => h (by simp [e])
  rw [if_neg hx, ih (by simpa [hx] using h)]
  simp
def eRow (k : Int) : List V := [V.p (.int .i64 k)]
structure SD where
 v : Int
 l : List Int
 k : SK
 o : Option Nat
def SD.acc (e : SD) : Acc := ⟨1, .sl (e.l.map eRow) e.k, e.l.map eRow, e.o⟩
def SD.pr (e : SD) : Int × List Int := (e.v, e.l)
def esDn (n : Nat) (sd : List SD) : List (PV × V × Nat) := (sd.zipIdx n).map fun x => (.int .i64 x.1.v, V.sl (x.1.l.map eRow) x.1.k, x.2)
def esD (sd : List SD) : List (PV × V × Nat) := esDn 0 sd
theorem esD_ok (l : List SD) : (esD l).all (fun e => keyOk (.int .i64) e.1) = true := by
 rw [List.all_eq_true]
 intro e he
 obtain ⟨x, _, rfl⟩ := List.mem_map.1 he
 rfl
theorem sd_cases : ∀ (sd : List SD) (v : Int) (a : Int), (∃ (i : Nat) (e : SD), sd[i]? = some e ∧ e.v = v ∧ (∀ n, findKey (esDn n sd) (.int .i64 v) = some (.sl (e.l.map eRow) e.k)) ∧
   (∀ (k : SK) (o : Option Nat) (n : Nat), setKey (esDn n sd) (.int .i64 v) (.sl ((e.l ++ [a]).map eRow) k) = esDn n (sd.set i ⟨v, e.l ++ [a], k, o⟩)) ∧ ∀ (k : SK) (o : Option Nat), (sd.set i ⟨v, e.l ++ [a], k, o⟩).map SD.pr = standAdd (sd.map SD.pr) v a) ∨
  ((∀ n, findKey (esDn n sd) (.int .i64 v) = none) ∧ standAdd (sd.map SD.pr) v a = sd.map SD.pr ++ [(v, [a])])
 | [], v, a => Or.inr ⟨fun _ => rfl, rfl⟩
 | e :: sd, v, a => by
  by_cases h : v = e.v
  ·refine Or.inl ⟨0, e, rfl, h.symm, fun n => ?_, fun k o n => ?_, fun k o => ?_⟩
   ·simp [esDn, findKey, keyEq, h]
   ·simp [esDn, setKey, keyEq, h]
   ·simp [standAdd, SD.pr, h]
  ·have hb : (v == e.v) = false := by simpa using h
   rcases sd_cases sd v a with ⟨i, e', h1, h2, h3, h4, h5⟩ | ⟨h1, h2⟩
   ·refine Or.inl ⟨i + 1, e', by simpa using h1, h2, fun n => ?_, fun k o n => ?_, fun k o => ?_⟩
    ·simp only [esDn, List.zipIdx_cons, List.map_cons, findKey, keyEq, hb, Bool.and_false, Bool.false_eq_true, if_false]
     exact h3 (n + 1)
    ·simp only [esDn, List.zipIdx_cons, List.map_cons, setKey, keyEq, hb, Bool.and_false, Bool.false_eq_true, if_false, List.set_cons_succ]
     congr 1
     exact h4 k o (n + 1)
    ·simp only [List.set_cons_succ, List.map_cons, standAdd, SD.pr, if_neg h]
     congr 1
     exact h5 k o
   ·refine Or.inr ⟨fun n => ?_, ?_⟩
    ·simp only [esDn, List.zipIdx_cons, List.map_cons, findKey, keyEq, hb, Bool.and_false, Bool.false_eq_true, if_false]
     exact h1 (n + 1)
    ·simp only [List.map_cons, standAdd, SD.pr, if_neg h, List.cons_append]
     congr 1
def KidV (v : V) (ks : List Int) : Prop := (v = .p .nilsl ∧ ks = []) ∨ ∃ k, v = .sl (ks.map eRow) k ∧ ks ≠ []
def HeadR (r : List V) (h : Head) : Prop := ∃ kv ks, r = [.p (.int .i64 h.kind), .p (h.names.enc eStr), kv, .p (.bool h.op)] ∧ KidV kv ks ∧ h.kids = Sl.of ks
def HeadsV (v : V) (hs : List Head) : Prop := ∃ rows, L2 HeadR rows hs ∧ ((v = .p .nilsl ∧ rows = []) ∨ ∃ k, v = .sl rows k ∧ rows ≠ [])
def OutR (r : List V) (s : StateP) : Prop := ∃ hv vv hs vs, r = [.p (.bool s.plus), hv, vv] ∧ HeadsV hv hs ∧ KidV vv vs ∧ s.heads = Sl.of hs ∧ s.vars = Sl.of vs
theorem KidV.one {v : V} {ks : List Int} (h : KidV v ks) : one v = true := by
 rcases h with ⟨rfl, _⟩ | ⟨k, rfl, _⟩ <;> rfl
theorem HeadsV.one {v : V} {hs : List Head} (h : HeadsV v hs) : one v = true := by
 obtain ⟨rows, _, h⟩ := h
 rcases h with ⟨rfl, _⟩ | ⟨k, rfl, _⟩ <;> rfl
theorem seal_rows (g : G) (d : Nat) : ∀ ks : List Int, mapR (sealD g (d + 1)) (ks.map eRow) = some (ks.map eInt)
 | [] => rfl
 | k :: ks => by
  have := seal_rows g d ks
  simp only [List.map_cons, mapR, this]
  rfl
theorem of_ne {α : Type} {l : List α} {f : α → List PV} (h : l ≠ []) : (Sl.of l).enc f = .sl (l.map f) := by
 cases l with
 | nil => exact absurd rfl h
 | cons a l => rfl
theorem KidV.sealed {v : V} {ks : List Int} (h : KidV v ks) (g : G) (d : Nat) : sealD g (d + 2) v = some ((Sl.of ks).enc eInt) := by
 rcases h with ⟨rfl, rfl⟩ | ⟨k, rfl, hne⟩
 ·rfl
 ·rw [of_ne hne]
  simp only [sealD, seal_rows, Option.map_some]
theorem HeadR.sealed {r : List V} {h : Head} (hr : HeadR r h) (g : G) (d : Nat) : mapO (sealD g (d + 2)) r = some h.enc := by
 obtain ⟨kv, ks, rfl, hk, he⟩ := hr
 simp only [mapO, hk.sealed g d]
 unfold Head.enc
 rw [he]
 rfl
theorem HeadsV.sealed {v : V} {hs : List Head} (h : HeadsV v hs) (g : G) (d : Nat) : sealD g (d + 3) v = some ((Sl.of hs).enc Head.enc) := by
 obtain ⟨rows, hl, h⟩ := h
 rcases h with ⟨rfl, rfl⟩ | ⟨k, rfl, hne⟩
 ·have : hs = [] := List.length_eq_zero_iff.1 hl.len.symm
  subst this; rfl
 ·have hne2 : hs ≠ [] := fun e => hne (List.length_eq_zero_iff.1 (by rw [hl.len, e]; rfl))
  rw [of_ne hne2]
  simp only [sealD, hl.mapR (F := sealD g (d + 2)) (f := Head.enc) fun r a hr => hr.sealed g d, Option.map_some]
theorem OutR.sealed {r : List V} {s : StateP} (hr : OutR r s) (g : G) : mapO (sealD g 3) r = some s.enc := by
 obtain ⟨hv, vv, hs, vs, rfl, h1, h2, h3, h4⟩ := hr
 simp only [mapO, h1.sealed g 0, h2.sealed g 1]
 unfold StateP.enc
 rw [h3, h4]
 rfl
theorem OutR.len {r : List V} {s : StateP} (hr : OutR r s) : r.length = 3 := by obtain ⟨hv, vv, hs, vs, rfl, _⟩ := hr; rfl
theorem chunks_flat {n : Nat} : ∀ {rows : List (List V)}, (∀ r, r ∈ rows → r.length = n) → chunks n rows.length rows.flatten = rows
 | [], _ => rfl
 | r :: rows, h => by
  have hr := h r List.mem_cons_self
  have ih := chunks_flat (rows := rows) fun q hq => h q (List.mem_cons_of_mem _ hq)
  simp only [List.length_cons, List.flatten_cons, chunks]
  rw [List.take_left' hr, List.drop_left' hr, ih]
theorem flat_len {n : Nat} : ∀ {rows : List (List V)}, (∀ r, r ∈ rows → r.length = n) → rows.flatten.length = rows.length * n
 | [], _ => by simp
 | r :: rows, h => by
  have hr := h r List.mem_cons_self
  have ih := flat_len (rows := rows) fun q hq => h q (List.mem_cons_of_mem _ hq)
  rw [List.flatten_cons, List.length_append, hr, ih, List.length_cons, Nat.succ_mul]; omega
theorem L2.all_len {α : Type} {R : List V → α → Prop} {n : Nat} (hR : ∀ r a, R r a → r.length = n) {l : List (List V)} {m : List α} (h : L2 R l m) : ∀ r, r ∈ l → r.length = n := by
 intro r hr
 obtain ⟨i, hi⟩ := List.mem_iff_getElem?.1 hr
 have hl := (List.getElem?_eq_some_iff.1 hi).1
 exact hR r _ (h.at_ i r (m[i]'(by have := h.len; omega)) hi (List.getElem?_eq_getElem _))
theorem seal_out {g : G} {os : List Ob} {ts : List Nat} {i : Nat} {rows : List (List V)} {S : List StateP} (hw : g.wo = g.objs.length) (ho : os[i]? = some (.cells rows.flatten)) (h : L2 OutR rows S) :
  sealCell (g.ext os ts) (.arr (g.objs.length + i) 0 S.length S.length 3) = some (.sl (S.map StateP.enc)) := by
 have hobj : (g.ext os ts).objs[g.objs.length + i]? = some (.cells rows.flatten) := by rw [ext_obj]; exact ho
 have hl := h.all_len fun r a hr => hr.len
 have hfl := flat_len hl
 simp only [sealCell, sealD, hobj]
 rw [if_pos (show (g.ext os ts).wo ≤ g.objs.length + i by show g.wo ≤ _; omega)]
 have ht : take? rows.flatten 0 (S.length * 3) = some rows.flatten := by
  unfold take?
  rw [← h.len, if_pos (by omega), List.drop_zero, List.take_of_length_le (by omega)]
 rw [ht, ← h.len]
 show Option.map PV.sl (mapR _ (chunks 3 rows.length rows.flatten)) = _
 rw [chunks_flat hl]
 simp only [h.mapR (F := sealD (g.ext os ts) 3) (f := StateP.enc) fun r a hr => hr.sealed _, Option.map_some]
end Go.Vm
set_option linter.unusedVariables false
namespace Go.Vm
open Go Go.Proofs
theorem Live.drop1 {B : Nat} {ts : List Nat} {a b : Acc} {A : List Acc} (h : Live B ts (a :: b :: A)) : Live B ts (a :: A) := (h.perm (List.Perm.swap b a A)).tail
theorem KidV.app {v : V} {ks : List Int} (h : KidV v ks) (n : Int) (k : SK) : KidV (.sl (ks.map eRow ++ [eRow n]) k) (ks ++ [n]) := Or.inr ⟨k, by simp, by simp⟩
theorem KidV.app2 (ks : List Int) (n : Int) (k : SK) : KidV (.sl ((ks ++ [n]).map eRow) k) (ks ++ [n]) := Or.inr ⟨k, rfl, by simp⟩
theorem KidV.acc {B : Nat} {ts : List Nat} {m : Nat} {v : V} {xs : List (List V)} {o : Option Nat} (h : AccAt B ts m v xs o) : xs = [] → v = .p .nilsl ∨ v = .sl [] .exact ∨ ∃ k, v = .sl [] k := by
 intro e; subst e
 cases h with
 | nil => exact Or.inl rfl
 | exact => exact Or.inr (Or.inl rfl)
 | own _ i hi => exact Or.inr (Or.inr ⟨_, rfl⟩)
theorem rowsI_ok (l : List Int) : (l.map eRow).all (rowOk 1) = true := by
 rw [List.all_eq_true]; intro r hr
 obtain ⟨a, _, rfl⟩ := List.mem_map.1 hr
 rfl
theorem headR_ok {rows : List (List V)} {hs : List Head} (h : L2 HeadR rows hs) : rows.all (rowOk 4) = true := by
 rw [List.all_eq_true]; intro r hr
 obtain ⟨i, hi⟩ := List.mem_iff_getElem?.1 hr
 have hl := (List.getElem?_eq_some_iff.1 hi).1
 obtain ⟨kv, ks, rfl, hk, _⟩ := h.at_ i r (hs[i]'(by have := h.len; omega)) hi (List.getElem?_eq_getElem _)
 simp only [rowOk, List.length_cons, List.length_nil, List.all_cons, List.all_nil, hk.one, Bool.and_true]
 rfl
def numO (cls ord : List Int) : Ob := .map (esC (ord.map (clA cls))) ord.length
def ordA (ord : List Int) (k : SK) (o : Option Nat) : Acc := ⟨1, .sl (ord.map eRow) k, ord.map eRow, o⟩
structure NS where
 m : Nat
 a : Nat
 x : NState
 sd : List SD
 k1 : SK
 o1 : Option Nat
 ov : V
 on : Option Nat
 rows : List (List V)
 os : List Ob
 ts : List Nat
structure NInv (L : List StateP) (root : Int) (cls D : List Int) (B T : Nat) (s : NS) : Prop where
 off : s.os[1]? = some (.map (esI D) D.length)
 num : s.os[2]? = some (numO cls s.x.ord)
 sta : s.os[3]? = some (.map (esD s.sd) s.sd.length)
 arr : ArrAt B s.os 3 s.ov s.rows.flatten s.rows.length s.on
 ge : ∀ i, s.on = some i → 4 ≤ i
 out : L2 OutR s.rows (s.x.outs.map fun p => ⟨p.1, Sl.of p.2, Sl.of []⟩)
 live : Live T s.ts (ordA s.x.ord s.k1 s.o1 :: s.sd.map SD.acc)
 ord : OrdOk L.length cls s.x.ord
 al : s.a = s.x.outs.length
 le : s.a ≤ s.x.ord.length
 sdp : s.sd.map SD.pr = s.x.st
 sdb : ∀ e, e ∈ s.sd → e.l.length ≤ 1024 * s.a ∧ ∀ q, q ∈ e.l → 0 ≤ q ∧ q < s.a
 sdn : s.sd.length ≤ 1024 * s.a
 run : normF L cls D s.m s.a s.x = normN L root
 fuel : L.length + 3 ≤ s.m + s.a
structure HS where
 b : Nat
 ord : List Int
 hs : List Head
 k1 : SK
 o1 : Option Nat
 hv : V
 rows : List (List V)
 oh : Option Nat
 ts : List Nat
structure HInv (L : List StateP) (cls : List Int) (T : Nat) (ord0 : List Int) (hl : List Head) (sd : List SD) (s : HS) : Prop where
 le : s.b ≤ hl.length
 run : headsF cls ord0 (hl.take s.b) = (s.ord, s.hs)
 rows : L2 HeadR s.rows s.hs
 live : Live T s.ts (ordA s.ord s.k1 s.o1 :: ⟨4, s.hv, s.rows, s.oh⟩ :: sd.map SD.acc)
 val : (s.hv = .p .nilsl ∧ s.rows = []) ∨ ∃ k, s.hv = .sl s.rows k ∧ s.rows ≠ []
 ord : OrdOk L.length cls s.ord
 len : s.hs.length = s.b
 mono : ord0.length ≤ s.ord.length
theorem HInv.heads {L : List StateP} {cls : List Int} {T : Nat} {ord0 : List Int} {hl : List Head} {sd : List SD} {s : HS} (h : HInv L cls T ord0 hl sd s) : HeadsV s.hv s.hs := ⟨s.rows, h.rows, h.val⟩
structure KS where
 c : Nat
 ord : List Int
 kn : List Int
 k1 : SK
 o1 : Option Nat
 kv : V
 ok : Option Nat
 ts : List Nat
structure KInv (L : List StateP) (cls : List Int) (T : Nat) (ord1 kl : List Int) (A : List Acc) (s : KS) : Prop where
 le : s.c ≤ kl.length
 run : kidsF cls ord1 (kl.take s.c) = (s.ord, s.kn)
 live : Live T s.ts (ordA s.ord s.k1 s.o1 :: ⟨1, s.kv, s.kn.map eRow, s.ok⟩ :: A)
 val : KidV s.kv s.kn
 ord : OrdOk L.length cls s.ord
 len : s.kn.length = s.c
 mono : ord1.length ≤ s.ord.length
theorem KInv.start {L : List StateP} {cls : List Int} {T : Nat} {ord1 kl : List Int} {A : List Acc} {k1 : SK} {o1 : Option Nat} {ts : List Nat} (h : Live T ts (ordA ord1 k1 o1 :: A)) (ho : OrdOk L.length cls ord1) : KInv L cls T ord1 kl A ⟨0, ord1, [], k1, o1, .p .nilsl, none, ts⟩ :=
 ⟨Nat.zero_le _, rfl, (h.cons0 .nil).perm (List.Perm.swap _ _ _), Or.inl ⟨rfl, rfl⟩, ho, rfl, Nat.le_refl _⟩
theorem KInv.new {L : List StateP} {cls : List Int} {T : Nat} {ord1 kl : List Int} {A : List Acc} {s : KS} (h : KInv L cls T ord1 kl A s) {q : Int} (eq : kl[s.c]? = some q) (hq : 0 ≤ q ∧ q < L.length) (hn : clA cls q ∉ s.ord.map (clA cls)) {k1 kk : SK} {o1 ok : Option Nat} {ts : List Nat}
  (hl : Live T ts (ordA (s.ord ++ [q]) k1 o1 :: ⟨1, .sl ((s.kn ++ [((s.ord.length : Nat) : Int)]).map eRow) kk, (s.kn ++ [((s.ord.length : Nat) : Int)]).map eRow, ok⟩ :: A)) :
  KInv L cls T ord1 kl A ⟨s.c + 1, s.ord ++ [q], s.kn ++ [((s.ord.length : Nat) : Int)], k1, o1, .sl ((s.kn ++ [((s.ord.length : Nat) : Int)]).map eRow) kk, ok, ts⟩ := by
 have hlt := (List.getElem?_eq_some_iff.1 eq).1
 have ha : addC cls s.ord q = s.ord ++ [q] := by unfold addC; rw [if_neg hn]
 refine ⟨hlt, ?_, hl, .app2 _ _ _, ha ▸ h.ord.add hq, by simp [h.len], by have := h.mono; simp; omega⟩
 unfold kidsF
 rw [foldl_succ eq]
 have := h.run
 unfold kidsF at this
 rw [this]
 simp only [kidStep, ha, List.map_append, List.map_cons, List.map_nil]
 rw [idxI_new hn, List.length_map]
theorem KInv.old {L : List StateP} {cls : List Int} {T : Nat} {ord1 kl : List Int} {A : List Acc} {s : KS} (h : KInv L cls T ord1 kl A s) {q : Int} (eq : kl[s.c]? = some q) (hn : clA cls q ∈ s.ord.map (clA cls)) {kk : SK} {ok : Option Nat} {ts : List Nat}
  (hl : Live T ts (ordA s.ord s.k1 s.o1 :: ⟨1, .sl ((s.kn ++ [((idxI (s.ord.map (clA cls)) (clA cls q) : Nat) : Int)]).map eRow) kk, (s.kn ++ [((idxI (s.ord.map (clA cls)) (clA cls q) : Nat) : Int)]).map eRow, ok⟩ :: A)) :
  KInv L cls T ord1 kl A ⟨s.c + 1, s.ord, s.kn ++ [((idxI (s.ord.map (clA cls)) (clA cls q) : Nat) : Int)], s.k1, s.o1, .sl ((s.kn ++ [((idxI (s.ord.map (clA cls)) (clA cls q) : Nat) : Int)]).map eRow) kk, ok, ts⟩ := by
 have hlt := (List.getElem?_eq_some_iff.1 eq).1
 have ha : addC cls s.ord q = s.ord := by unfold addC; rw [if_pos hn]
 refine ⟨hlt, ?_, hl, .app2 _ _ _, h.ord, by simp [h.len], h.mono⟩
 unfold kidsF
 rw [foldl_succ eq]
 have := h.run
 unfold kidsF at this
 rw [this]
 simp only [kidStep, ha]
theorem HInv.start {L : List StateP} {cls : List Int} {T : Nat} {ord0 : List Int} {hl : List Head} {sd : List SD} {k1 : SK} {o1 : Option Nat} {ts : List Nat} (h : Live T ts (ordA ord0 k1 o1 :: sd.map SD.acc)) (ho : OrdOk L.length cls ord0) : HInv L cls T ord0 hl sd ⟨0, ord0, [], k1, o1, .p .nilsl, [], none, ts⟩ :=
 ⟨Nat.zero_le _, rfl, L2.nil, (h.cons0 .nil).perm (List.Perm.swap _ _ _), Or.inl ⟨rfl, rfl⟩, ho, rfl, Nat.le_refl _⟩
theorem HInv.next {L : List StateP} {cls : List Int} {T : Nat} {ord0 : List Int} {hl : List Head} {sd : List SD} {s : HS} (h : HInv L cls T ord0 hl sd s) {hd : Head} (eh : hl[s.b]? = some hd) {t : KS} (hk : KInv L cls T s.ord hd.kids.l (⟨4, s.hv, s.rows, s.oh⟩ :: sd.map SD.acc) t) (hc : hd.kids.l.length ≤ t.c) {kk : SK} {oh : Option Nat} {ts : List Nat}
  (hl' : Live T ts (ordA t.ord t.k1 t.o1 :: ⟨1, t.kv, t.kn.map eRow, t.ok⟩ :: ⟨4, .sl (s.rows ++ [[.p (.int .i64 hd.kind), .p (hd.names.enc eStr), t.kv, .p (.bool hd.op)]]) kk, s.rows ++ [[.p (.int .i64 hd.kind), .p (hd.names.enc eStr), t.kv, .p (.bool hd.op)]], oh⟩ :: sd.map SD.acc)) :
  HInv L cls T ord0 hl sd ⟨s.b + 1, t.ord, s.hs ++ [⟨hd.kind, hd.names, Sl.of t.kn, hd.op⟩], t.k1, t.o1, .sl (s.rows ++ [[.p (.int .i64 hd.kind), .p (hd.names.enc eStr), t.kv, .p (.bool hd.op)]]) kk, s.rows ++ [[.p (.int .i64 hd.kind), .p (hd.names.enc eStr), t.kv, .p (.bool hd.op)]], oh, ts⟩ := by
 have hlt := (List.getElem?_eq_some_iff.1 eh).1
 have hr := hk.run
 rw [List.take_of_length_le hc] at hr
 refine ⟨hlt, ?_, h.rows.snoc ⟨t.kv, t.kn, rfl, hk.val, rfl⟩, hl'.drop1, Or.inr ⟨kk, rfl, by simp⟩, hk.ord, by simp [h.len], Nat.le_trans h.mono hk.mono⟩
 unfold headsF
 rw [foldl_succ eh]
 have := h.run
 unfold headsF at this
 rw [this]
 simp only [headStep, hr]
theorem stand_step {T : Nat} {ts : List Nat} {oa : Acc} {sd : List SD} {v a : Int} {n : Nat} (hl : Live T ts (oa :: sd.map SD.acc)) (hb : ∀ e, e ∈ sd → e.l.length ≤ n) :
  ∃ (sv : V) (xs : List (List V)) (so : Option Nat) (A1 : List Acc) (i : Nat), (match findKey (esD sd) (.int .i64 v) with | some w => (if false then .tup [w, .p (.bool true)] else w) | none => (if false then .tup [V.p .nilsl, .p (.bool false)] else V.p .nilsl)) = sv ∧
   Live T ts A1 ∧ A1[i]? = some ⟨1, sv, xs, so⟩ ∧ xs.length ≤ n ∧ xs.all (rowOk 1) = true ∧ ∀ (kk : SK) (o' : Option Nat) (ts' : List Nat), Live T ts' (A1.set i ⟨1, .sl (xs ++ [eRow a]) kk, xs ++ [eRow a], o'⟩) →
    ∃ sd' : List SD, Live T ts' (oa :: sd'.map SD.acc) ∧ Ob.map (insK (esD sd) (.int .i64 v) (.sl (xs ++ [eRow a]) kk) sd.length) (insC (esD sd) (.int .i64 v) sd.length) = .map (esD sd') sd'.length ∧ sd'.map SD.pr = standAdd (sd.map SD.pr) v a ∧
     (∀ e, e ∈ sd' → e.l.length ≤ n + 1 ∧ ∀ q, q ∈ e.l → q = a ∨ ∃ e0, e0 ∈ sd ∧ q ∈ e0.l) ∧ sd'.length ≤ sd.length + 1 := by
 rcases sd_cases sd v a with ⟨i, e, h1, h2, h3, h4, h5⟩ | ⟨h1, h2⟩
 ·have hm := List.mem_of_getElem? h1
  have hi := (List.getElem?_eq_some_iff.1 h1).1
  refine ⟨.sl (e.l.map eRow) e.k, e.l.map eRow, e.o, oa :: sd.map SD.acc, i + 1, ?_, hl, ?_, ?_, rowsI_ok _, ?_⟩
  ·unfold esD; rw [h3 0]; rfl
  ·rw [List.getElem?_cons_succ, List.getElem?_map, h1]; rfl
  ·rw [List.length_map]; exact hb e hm
  ·intro kk o' ts' hL
   refine ⟨sd.set i ⟨v, e.l ++ [a], kk, o'⟩, ?_, ?_, h5 kk o', ?_, by simp⟩
   ·rw [List.map_set]
    have : SD.acc ⟨v, e.l ++ [a], kk, o'⟩ = ⟨1, .sl (e.l.map eRow ++ [eRow a]) kk, e.l.map eRow ++ [eRow a], o'⟩ := by simp [SD.acc]
    rw [this]
    exact hL
   ·unfold insK insC esD
    rw [h3 0]
    have e1 : e.l.map eRow ++ [eRow a] = (e.l ++ [a]).map eRow := by simp
    rw [e1, h4 kk o' 0, List.length_set]
   ·intro e' he'
    rcases List.mem_or_eq_of_mem_set he' with he' | rfl
    ·exact ⟨by have := hb e' he'; omega, fun q hq => Or.inr ⟨e', he', hq⟩⟩
    ·refine ⟨by have := hb e hm; simp; omega, fun q hq => ?_⟩
     rcases List.mem_append.1 hq with hq | hq
     ·exact Or.inr ⟨e, hm, hq⟩
     ·exact Or.inl (by simpa using hq)
 ·refine ⟨.p .nilsl, [], none, ⟨1, .p .nilsl, [], none⟩ :: oa :: sd.map SD.acc, 0, ?_, hl.cons0 .nil, rfl, Nat.zero_le _, rfl, ?_⟩
  ·unfold esD; rw [h1 0]; rfl
  ·intro kk o' ts' hL
   refine ⟨sd ++ [⟨v, [a], kk, o'⟩], ?_, ?_, ?_, ?_, by simp⟩
   ·have hL : Live T ts' (⟨1, .sl [eRow a] kk, [eRow a], o'⟩ :: oa :: sd.map SD.acc) := hL
    have : SD.acc ⟨v, [a], kk, o'⟩ = ⟨1, .sl [eRow a] kk, [eRow a], o'⟩ := rfl
    rw [List.map_append, List.map_cons, List.map_nil, this]
    refine hL.perm ((List.Perm.swap _ _ _).trans (List.Perm.cons _ ?_))
    exact List.perm_append_singleton _ _ |>.symm
   ·unfold insK insC esD
    rw [h1 0]
    simp [esDn, List.zipIdx_append]
   ·rw [List.map_append, h2]; rfl
   ·intro e' he'
    rcases List.mem_append.1 he' with he' | he'
    ·exact ⟨by have := hb e' he'; omega, fun q hq => Or.inr ⟨e', he', hq⟩⟩
    ·simp only [List.mem_singleton] at he'
     subst he'
     exact ⟨by simp, fun q hq => Or.inl (by simpa using hq)⟩
end Go.Vm
set_option linter.unusedVariables false
namespace Go.Vm
open Go Go.Proofs
section
variable {E : Env} {nt : Nat} {b : Nat → V} {L : List (Nat × V)} {rb : Nat → Option (Nat × List V)} {R : List (Nat × (Nat × List V))} {esc : Nat → Bool} {g : G} {os : List Ob} {ts : List Nat}
theorem x_end2 {e : X} {t u i G' n : Nat} {ty : TypeId} {cs ds : List V} {v2 w1 w2 r : V} {rs : List ResultVar} {g0 : G} (he : e = .normal ∨ e = .ret) (hrs : rs = [.cell t ty, .tmp u]) (hv : getL L t = some (.loc i G' 0)) (hi : isag E ty = some true) (hz : sz E ty = some n) (hr : getR R i = some (G', cs)) (hc : take? cs 0 n = some ds)
  (hs : sealV g (.agg ds) = some w1) (hu : getL L u = some v2) (h1 : (cellsOf v2).all one = true) (hs2 : sealV g v2 = some w2) (hwo : g.wo = g0.wo) (hwt : g.wt = g0.wt) (hd : V.tup [w1, w2] = r) :
  (e = .normal ∨ e = .ret) ∧ ∃ vs ws, resOf E (Sx nt b L rb R esc g) rs = some vs ∧ sealL (Sx nt b L rb R esc g).g vs = some ws ∧ (Sx nt b L rb R esc g).g.wo = g0.wo ∧ (Sx nt b L rb R esc g).g.wt = g0.wt ∧ pack ws = r := by
 subst hrs
 refine ⟨he, [.agg ds, v2], [w1, w2], ?_, ?_, hwo, hwt, hd⟩
 ·have e1 : (Sx nt b L rb R esc g).tm t = .loc i G' 0 := getL_of hv
  have e2 : (Sx nt b L rb R esc g).tm u = v2 := getL_of hu
  have h2 : St.loadV E (Sx nt b L rb R esc g) ty (.loc i G' 0) = some (.agg ds) := ldLA hi hz (getR_of hr) hc
  simp only [resOf, e1, e2, h2, h1, if_true]
 ·show sealL g [.agg ds, v2] = some [w1, w2]
  simp only [sealL, hs, hs2]
variable {qt : Bool} {ops : Array Oper} {l : List Oper} {K : St → Prop} {d : Nat} {ty : TypeId} {pos : String} {after : Array Edge} {gd : Option (Nat × Bool)}
theorem x_lenR {t e : TypeId} {y : Operand} {v : V} {us : List (List Int)} {o : Option Nat} (h : wX ops nt L gd = some true) (hd : Nat.blt d nt = true) (hx : evX E L y = some v) (hu : E.P.underlying t = some (.slice e)) (hR : RowV g.objs.length os v us o)
  (k : wpL E qt ops l (Sx nt b ((d, .p (.int .i64 us.length)) :: L) rb R esc (g.ext os ts)) K) : wpL E qt ops (⟨some d, .call { callee := .builtin .len, args := #[y], argTypes := #[t] }, ty, pos, after, gd⟩ :: l) (Sx nt b L rb R esc (g.ext os ts)) K := by
 cases hR with
 | nil => exact wpl_len (wX_ok h) (blt hd) (evX_ok hx) hu rfl (by rw [ofL_upd]; exact k)
 | arr i cap C nz us ho hr => exact x_lenA h hd hx hu k
end
theorem flat_at {n : Nat} : ∀ {rows : List (List V)} {i j : Nat} {r : List V}, (∀ r, r ∈ rows → r.length = n) → rows[i]? = some r → j < n → rows.flatten[i * n + j]? = r[j]?
 | [], i, j, r, _, h, _ => by simp at h
 | q :: rows, 0, j, r, hl, h, hj => by
  simp only [List.getElem?_cons_zero, Option.some.injEq] at h
  subst h
  rw [List.flatten_cons, List.getElem?_append_left (by rw [hl q List.mem_cons_self]; omega)]
  congr 1; omega
 | q :: rows, i + 1, j, r, hl, h, hj => by
  have hq := hl q List.mem_cons_self
  rw [List.flatten_cons, Nat.succ_mul, List.getElem?_append_right (by omega), hq]
  rw [show i * n + n + j - n = i * n + j by omega]
  exact flat_at (fun r hr => hl r (List.mem_cons_of_mem _ hr)) (by simpa using h) hj
theorem flat_set {n : Nat} {x : V} : ∀ {rows : List (List V)} {i j : Nat} {r : List V}, (∀ r, r ∈ rows → r.length = n) → rows[i]? = some r → j < n → rows.flatten.set (i * n + j) x = (rows.set i (r.set j x)).flatten
 | [], i, j, r, _, h, _ => by simp at h
 | q :: rows, 0, j, r, hl, h, hj => by
  simp only [List.getElem?_cons_zero, Option.some.injEq] at h
  subst h
  have hq := hl q List.mem_cons_self
  rw [List.flatten_cons, List.set_append_left _ _ (by omega)]
  simp
 | q :: rows, i + 1, j, r, hl, h, hj => by
  have hq := hl q List.mem_cons_self
  rw [List.flatten_cons, Nat.succ_mul, List.set_append_right _ _ (by omega), hq]
  rw [show i * n + n + j - n = i * n + j by omega, flat_set (fun r hr => hl r (List.mem_cons_of_mem _ hr)) (by simpa using h) hj]
  simp
theorem esD_mem {sd : List SD} {e : PV × V × Nat} (h : e ∈ esD sd) : ∃ d, sd[e.2.2]? = some d ∧ e = (.int .i64 d.v, .sl (d.l.map eRow) d.k, e.2.2) := by
 unfold esD esDn at h
 obtain ⟨x, hx, rfl⟩ := List.mem_map.1 h
 rw [List.mem_zipIdx_iff_getElem?] at hx
 exact ⟨x.1, hx, rfl⟩
theorem esD_all {sd : List SD} {i : Nat} (h : i < sd.length) : ∃ e, e ∈ esD sd ∧ e.2.2 = i := by
 refine ⟨(.int .i64 sd[i].v, .sl (sd[i].l.map eRow) sd[i].k, i), ?_, rfl⟩
 unfold esD esDn
 refine List.mem_map.2 ⟨(sd[i], i), ?_, rfl⟩
 rw [List.mem_zipIdx_iff_getElem?]
 exact List.getElem?_eq_getElem h
def placeL (sd : List SD) (b : Nat) : List Int := (sd[b]?.map SD.l).getD []
structure IInv (B : Nat) (sd : List SD) (it : Nat) (io : Nat) (cells : List V) (os : List Ob) (seen : List Nat) (stp : Nat) (rv : V) (rcs : List V) (us : List (List Int)) (ro : Option Nat) : Prop where
 nodup : seen.Nodup
 lt : ∀ i, i ∈ seen → i < sd.length
 usq : us = seen.map (placeL sd)
 arr : ArrAt B os 1 rv rcs us.length ro
 rows : RowsOf rcs us
 iter : os[it]? = some (.iter (some (B + 3)) sd.length seen stp)
 sta : os[3]? = some (.map (esD sd) sd.length)
 step : seen = [] ∨ stp = sd.length
 ro : ∀ i, ro = some i → it < i ∧ 0 < us.length
 out : os[io]? = some (.cells cells)
 io : io < it ∧ 3 < it ∧ io ≠ 3
theorem IInv.hstep {B : Nat} {sd : List SD} {it io : Nat} {cells : List V} {os : List Ob} {seen : List Nat} {stp : Nat} {rv : V} {rcs : List V} {us : List (List Int)} {ro : Option Nat} (h : IInv B sd it io cells os seen stp rv rcs us ro) : seen = [] ∨ ∃ e, e ∈ esD sd ∧ e.2.2 < stp := by
 rcases h.step with e | e
 ·exact Or.inl e
 ·cases hs : seen with
  | nil => exact Or.inl rfl
  | cons i l =>
   have hi := h.lt i (by rw [hs]; exact List.mem_cons_self)
   obtain ⟨x, h1, h2⟩ := esD_all hi
   exact Or.inr ⟨x, h1, by omega⟩
theorem IInv.le {B : Nat} {sd : List SD} {it io : Nat} {cells : List V} {os : List Ob} {seen : List Nat} {stp : Nat} {rv : V} {rcs : List V} {us : List (List Int)} {ro : Option Nat} (h : IInv B sd it io cells os seen stp rv rcs us ro) : us.length ≤ sd.length := by
 rw [h.usq, List.length_map]
 have := h.nodup.length_le_of_subset (l₂ := List.range sd.length) fun i hi => List.mem_range.2 (h.lt i hi)
 simpa using this
theorem IInv.next {B : Nat} {sd : List SD} {it io : Nat} {cells : List V} {os : List Ob} {seen : List Nat} {stp : Nat} {rv : V} {rcs : List V} {us : List (List Int)} {ro : Option Nat} (h : IInv B sd it io cells os seen stp rv rcs us ro) {e : PV × V × Nat} {d : SD} (hd : sd[e.2.2]? = some d) (hne : e.2.2 ∉ seen) :
  IInv B sd it io cells (osKill (os.set it (.iter (some (B + 3)) sd.length (seen ++ [e.2.2]) sd.length)) ro ++ [.cells (rcs ++ [.sl (d.l.map eRow) d.k])]) (seen ++ [e.2.2]) sd.length (.arr (B + (os.set it (.iter (some (B + 3)) sd.length (seen ++ [e.2.2]) sd.length)).length) 0 (us.length + 1) (us.length + 1) 1) (rcs ++ [.sl (d.l.map eRow) d.k]) (us ++ [d.l]) (some (os.set it (.iter (some (B + 3)) sd.length (seen ++ [e.2.2]) sd.length)).length) := by
 have hlt := (List.getElem?_eq_some_iff.1 hd).1
 have hitl := (List.getElem?_eq_some_iff.1 h.iter).1
 have hio := h.io
 have hold : ∀ {j : Nat}, j < it → (osKill (os.set it (.iter (some (B + 3)) sd.length (seen ++ [e.2.2]) sd.length)) ro ++ [.cells (rcs ++ [.sl (d.l.map eRow) d.k])])[j]? = os[j]? := by
  intro j hj
  rw [List.getElem?_append_left (by rw [osKill_len, List.length_set]; omega), osKill_get (fun e => by have := (h.ro j e).1; omega), List.getElem?_set_ne (by omega)]
 refine ⟨?_, fun i hi => ?_, ?_, ?_, h.rows.snoc d.l d.k, ?_, (hold hio.2.1).trans h.sta, Or.inr rfl, fun i hi => ?_, (hold hio.1).trans h.out, hio⟩
 ·rw [List.nodup_append]
  refine ⟨h.nodup, by simp, fun a ha b hb => ?_⟩
  simp only [List.mem_singleton] at hb
  subst hb; rintro rfl; exact hne ha
 ·rcases List.mem_append.1 hi with hi | hi
  ·exact h.lt i hi
  ·simp only [List.mem_singleton] at hi; omega
 ·rw [List.map_append, ← h.usq]
  simp [placeL, hd]
 ·rw [List.length_append]
  refine .arr _ _ _ ?_ ?_
  ·rw [List.getElem?_append_right (by rw [osKill_len]; omega), osKill_len]; simp
  ·have := h.rows.1; simp; omega
 ·rw [List.getElem?_append_left (by rw [osKill_len, List.length_set]; omega), osKill_get (fun e => by have := (h.ro it e).1; omega), List.getElem?_set_self hitl]
 ·simp only [Option.some.injEq] at hi
  subst hi
  rw [List.length_set]
  exact ⟨hitl, by simp⟩
theorem IInv.perm {B : Nat} {sd : List SD} {it io : Nat} {cells : List V} {os : List Ob} {seen : List Nat} {stp : Nat} {rv : V} {rcs : List V} {us : List (List Int)} {ro : Option Nat} (h : IInv B sd it io cells os seen stp rv rcs us ro) (hall : ∀ e, e ∈ esD sd → e.2.2 ∈ seen) : us.Perm (sd.map SD.l) := by
 have hp : seen.Perm (List.range sd.length) := by
  rw [List.perm_ext_iff_of_nodup h.nodup List.nodup_range]
  intro i
  rw [List.mem_range]
  refine ⟨h.lt i, fun hi => ?_⟩
  obtain ⟨e, h1, h2⟩ := esD_all hi
  rw [← h2]; exact hall e h1
 have e : (List.range sd.length).map (placeL sd) = sd.map SD.l := by
  apply List.ext_getElem?
  intro i
  rw [List.getElem?_map, List.getElem?_map]
  by_cases hi : i < sd.length
  ·rw [List.getElem?_range hi, List.getElem?_eq_getElem hi]
   simp [placeL, hi]
  ·rw [List.getElem?_eq_none (by simp; omega), List.getElem?_eq_none (by omega)]; rfl
 rw [h.usq, ← e]
 exact hp.map _
theorem compU_mem {us : List (List Int)} {u : List Int} : ∀ {j : Nat}, j ≤ us.length → u ∈ compU us j → u ∈ us
 | 0, _, h => by simp [compU] at h
 | j + 1, hj, h => by
  have h : u ∈ compU us j ++ (if keepAt us j then [us.getD j []] else []) := h
  rcases List.mem_append.1 h with h | h
  ·exact compU_mem (by omega) h
  ·split at h
   ·simp only [List.mem_singleton] at h
    subst h
    rw [List.getD_eq_getElem?_getD, List.getElem?_eq_getElem (by omega)]
    exact List.getElem_mem _
   ·simp at h
theorem compU_le (us : List (List Int)) : ∀ j, (compU us j).length ≤ j
 | 0 => Nat.le_refl _
 | j + 1 => by
  have := compU_le us j
  show (compU us j ++ (if keepAt us j then _ else _)).length ≤ _
  split <;> simp <;> omega
structure VInv (T : Nat) (ts : List Nat) (outs : List (Bool × List Head)) (rows : List (List V)) (A : List Acc) (vs : List (List Int)) : Prop where
 lr : rows.length = outs.length
 la : A.length = outs.length
 lv : vs.length = outs.length
 at_ : ∀ i q, outs[i]? = some q → ∃ hv vv o, rows[i]? = some [.p (.bool q.1), hv, vv] ∧ A[i]? = some ⟨1, vv, (vs.getD i []).map eRow, o⟩ ∧ HeadsV hv q.2 ∧ KidV vv (vs.getD i [])
 live : Live T ts A
theorem of_inj {α : Type} {a c : List α} (h : Sl.of a = Sl.of c) : a = c := congrArg Sl.l h
theorem VInv.start {T : Nat} {ts : List Nat} {outs : List (Bool × List Head)} {rows : List (List V)} (h : L2 OutR rows (outs.map fun p => ⟨p.1, Sl.of p.2, Sl.of []⟩)) : VInv T ts outs rows (List.replicate outs.length ⟨1, .p .nilsl, [], none⟩) (List.replicate outs.length []) := by
 have hlen := h.len
 rw [List.length_map] at hlen
 refine ⟨hlen, by simp, by simp, fun i q hq => ?_, ?_⟩
 ·have hi := (List.getElem?_eq_some_iff.1 hq).1
  have hr : rows[i]? = some (rows[i]'(by omega)) := List.getElem?_eq_getElem _
  obtain ⟨hv, vv, hs, vs, e, h1, h2, h3, h4⟩ := h.at_ i _ _ hr (by rw [List.getElem?_map, hq]; rfl)
  have e1 : q.2 = hs := of_inj h3
  have e2 : [] = vs := of_inj h4
  subst e1 e2
  have e3 : vv = .p .nilsl := by
   rcases h2 with ⟨e, _⟩ | ⟨k, _, hne⟩
   ·exact e
   ·exact absurd rfl hne
  subst e3
  have e4 : (List.replicate outs.length ([] : List Int)).getD i [] = [] := by
   rw [List.getD_eq_getElem?_getD, List.getElem?_replicate]; split <;> rfl
  refine ⟨hv, .p .nilsl, none, by rw [hr, e], ?_, h1, ?_⟩
  ·rw [e4, List.getElem?_replicate, if_pos hi]; rfl
  ·rw [e4]; exact Or.inl ⟨rfl, rfl⟩
 ·have : ∀ n, Live T ts (List.replicate n ⟨1, .p .nilsl, [], none⟩) := by
   intro n
   induction n with
   | zero => exact Live.nil
   | succ n ih => exact ih.cons0 .nil
  exact this _
theorem VInv.len3 {T : Nat} {ts : List Nat} {outs : List (Bool × List Head)} {rows : List (List V)} {A : List Acc} {vs : List (List Int)} (h : VInv T ts outs rows A vs) : ∀ r, r ∈ rows → r.length = 3 := by
 intro r hr
 obtain ⟨i, hi⟩ := List.mem_iff_getElem?.1 hr
 have hl := (List.getElem?_eq_some_iff.1 hi).1
 rw [h.lr] at hl
 obtain ⟨hv, vv, o, h1, _⟩ := h.at_ i _ (List.getElem?_eq_getElem hl)
 rw [hi] at h1; cases h1; rfl
theorem VInv.put {T : Nat} {ts ts' : List Nat} {outs : List (Bool × List Head)} {rows : List (List V)} {A : List Acc} {vs : List (List Int)} (h : VInv T ts outs rows A vs) {i : Nat} {q : Bool × List Head} {hv vv : V} {b : Int} {kk : SK} {o' : Option Nat} (hq : outs[i]? = some q) (hr : rows[i]? = some [.p (.bool q.1), hv, vv])
  (hl : Live T ts' (A.set i ⟨1, .sl ((vs.getD i []).map eRow ++ [eRow b]) kk, (vs.getD i []).map eRow ++ [eRow b], o'⟩)) :
  VInv T ts' outs (rows.set i [.p (.bool q.1), hv, .sl ((vs.getD i []).map eRow ++ [eRow b]) kk]) (A.set i ⟨1, .sl ((vs.getD i []).map eRow ++ [eRow b]) kk, (vs.getD i []).map eRow ++ [eRow b], o'⟩) (vs.set i (vs.getD i [] ++ [b])) := by
 have hi := (List.getElem?_eq_some_iff.1 hq).1
 have h1 := h.lr; have h2 := h.la; have h3 := h.lv
 refine ⟨by simp [h1], by simp [h2], by simp [h3], fun j p hp => ?_, hl⟩
 obtain ⟨hv', vv', o, e1, e2, e3, e4⟩ := h.at_ j p hp
 by_cases hj : j = i
 ·subst hj
  rw [hq] at hp; cases hp
  rw [hr] at e1; cases e1
  have e5 : (vs.set j (vs.getD j [] ++ [b])).getD j [] = vs.getD j [] ++ [b] := by rw [List.getD_eq_getElem?_getD, List.getElem?_set_self (by omega)]; rfl
  refine ⟨hv, _, o', List.getElem?_set_self (by omega), ?_, e3, ?_⟩
  ·rw [List.getElem?_set_self (by omega), e5]; simp
  ·rw [e5]; exact e4.app b kk
 ·have e5 : (vs.set i (vs.getD i [] ++ [b])).getD j [] = vs.getD j [] := by rw [List.getD_eq_getElem?_getD, List.getElem?_set_ne (fun e => hj e.symm), ← List.getD_eq_getElem?_getD]
  refine ⟨hv', vv', o, by rw [List.getElem?_set_ne (fun e => hj e.symm)]; exact e1, ?_, e3, by rw [e5]; exact e4⟩
  rw [List.getElem?_set_ne (fun e => hj e.symm), e5]; exact e2
theorem VInv.out {T : Nat} {ts : List Nat} {outs : List (Bool × List Head)} {rows : List (List V)} {A : List Acc} {vs : List (List Int)} (h : VInv T ts outs rows A vs) : L2 OutR rows (statesN outs vs) := by
 refine ⟨by rw [h.lr]; simp [statesN], fun i r s hr hs => ?_⟩
 unfold statesN at hs
 rw [List.getElem?_map, Option.map_eq_some_iff] at hs
 obtain ⟨x, hx, rfl⟩ := hs
 rw [List.getElem?_zipIdx, Option.map_eq_some_iff] at hx
 obtain ⟨q, hq, rfl⟩ := hx
 obtain ⟨hv, vv, o, e1, e2, e3, e4⟩ := h.at_ i q hq
 rw [hr] at e1; cases e1
 exact ⟨hv, vv, q.2, vs.getD i [], rfl, e3, e4, rfl, by simp⟩
end Go.Vm
set_option linter.unusedVariables false
namespace Go.Vm
open Go Go.Proofs
section
variable {E : Env} {qt : Bool} {ops : Array Oper} {l : List Oper} {K : St → Prop}
variable {nt : Nat} {esc : Nat → Bool} {g : G} {os : List Ob} {ts : List Nat}
variable {d : Nat} {ty : TypeId} {pos : String} {after : Array Edge} {gd : Option (Nat × Bool)}
variable {b : Nat → V} {L : List (Nat × V)} {rb : Nat → Option (Nat × List V)} {R : List (Nat × (Nat × List V))}
theorem x_appI {t u e : TypeId} {x y : Operand} {by' i : Nat} {z : List V} {v : V} {xs : List Int} {o : Option Nat} {A : List Acc} {n : Int} {k' : SK} (h : wX ops nt L gd = some true) (hd : Nat.blt d nt = true) (hnb : esc d = false) (hwt : g.wt = g.toks.length) (hx : evX E L x = some v) (hy : evX E L y = some (.sl [[V.p (.int .i64 n)]] k'))
  (he : elemOf E t = some e) (hu : E.P.underlying u = some (.slice e)) (hz : zeroOf E e = some z) (hi : (E.P.info? e).map (fun i => (i.size, i.bytes)) = some (1, by')) (hm : (Nat.blt 0 1 && Nat.blt 0 by' && Nat.beq z.length 1 && Nat.blt 0 1) = true)
  (hA : Live g.toks.length ts A) (ha : A[i]? = some ⟨1, v, xs.map eRow, o⟩) (hn : (xs.length + 1) * by' ≤ 2 ^ 47)
  (k : ∀ kk o' ts', Live g.toks.length ts' (A.set i ⟨1, .sl ((xs ++ [n]).map eRow) kk, (xs ++ [n]).map eRow, o'⟩) → wpL E qt ops l (Sx nt b ((d, .sl ((xs ++ [n]).map eRow) kk) :: L) rb R esc (g.ext os ts')) K) :
  wpL E qt ops (⟨some d, .call { callee := .builtin .append, args := #[x, y], argTypes := #[t, u] }, ty, pos, after, gd⟩ :: l) (Sx nt b L rb R esc (g.ext os ts)) K := by
 refine x_appG (i := i) (a := ⟨1, v, xs.map eRow, o⟩) h hd hnb hwt hx hy he hu hz hi hm hA ha rfl (rowsI_ok _) rfl (by simpa using hn) fun kk o' ts' hl => ?_
 have e : xs.map eRow ++ [[V.p (.int .i64 n)]] = (xs ++ [n]).map eRow := by simp [eRow]
 simp only [e] at hl ⊢
 exact k kk o' ts' hl
end
theorem clA_at {cls : List Int} {k : Int} (h : k.toNat < cls.length) : cls[k.toNat]? = some (clA cls k) := by
 simp [clA, List.getElem?_eq_getElem h, List.getD_eq_getElem?_getD]
theorem set_same {α : Type} {os : List α} {i : Nat} {x : α} (h : os[i]? = some x) : os.set i x = os := by
 obtain ⟨h1, rfl⟩ := List.getElem?_eq_some_iff.1 h
 simp
theorem set2_get {os : List Ob} {cls o o' : List Int} (h : os[2]? = some (numO cls o)) : (os.set 2 (numO cls o'))[2]? = some (.map (esC (o'.map (clA cls))) o'.length) := List.getElem?_set_self (List.getElem?_eq_some_iff.1 h).1
theorem num_put {cls ord : List Int} {q : Int} (h : clA cls q ∉ ord.map (clA cls)) : Ob.map (insK (esC (ord.map (clA cls))) (.int .i64 (clA cls q)) (.p (.int .i64 (ord.length : Nat))) ord.length) (insC (esC (ord.map (clA cls))) (.int .i64 (clA cls q)) ord.length) = numO cls (ord ++ [q]) := by
 have := esC_put h
 rw [List.length_map] at this
 rw [this]
 simp [numO]
theorem NInv.start {L : List StateP} {root : Int} {cls D : List Int} {B T : Nat} {mo : Ob} (hcls : cls = classL L root) (hD : D = idleD (idleB L root) L) (h0 : 0 ≤ root ∧ root < L.length) :
  NInv L root cls D B T ⟨L.length + 3, 0, ⟨[root], [], []⟩, [], .exact, none, .p .nilsl, none, [], [mo, .map (esI D) D.length, numO cls [root], .map [] 0], []⟩ := by
 refine ⟨rfl, rfl, rfl, .nil, fun i h => (by cases h), L2.nil, Live.nil.cons0 (.exact _), ⟨by simp, fun k hk => by simp only [List.mem_singleton] at hk; subst hk; exact h0, Nat.zero_lt_one⟩, rfl, Nat.zero_le _, rfl, fun e he => by simp at he, Nat.zero_le _, ?_, Nat.le_refl _⟩
 subst hcls hD; rfl
theorem hrow_ok {a c d : PV} {kv : V} (h : one kv = true) : [[V.p a, .p c, kv, .p d]].all (rowOk 4) = true := by
 simp only [rowOk, List.all_cons, List.all_nil, h]; rfl
theorem srow_ok {a : PV} {hv vv : V} (h : one hv = true) (h2 : one vv = true) : [[V.p a, hv, vv]].all (rowOk 3) = true := by
 simp only [rowOk, List.all_cons, List.all_nil, h, h2]; rfl
theorem fill4 {a c d : PV} {kv : V} (h : one kv = true) : fillIn (fun i => some (i * 4, 4)) (List.replicate 1 [V.p (.int .i64 0), .p .nilsl, .p .nilsl, .p (.bool false)]).flatten [(0, .agg [V.p a, .p c, kv, .p d])] = some [V.p a, .p c, kv, .p d] := by
 have : [V.p a, .p c, kv, .p d].all one = true := by simp only [List.all_cons, List.all_nil, h]; rfl
 simp only [fillIn, cellsOf, this, if_true]
 rfl
theorem fill3 {a : PV} {hv vv : V} (h : one hv = true) (h2 : one vv = true) : fillIn (fun i => some (i * 3, 3)) (List.replicate 1 [V.p (.bool false), .p .nilsl, .p .nilsl]).flatten [(0, .agg [V.p a, hv, vv])] = some [V.p a, hv, vv] := by
 have : [V.p a, hv, vv].all one = true := by simp only [List.all_cons, List.all_nil, h, h2]; rfl
 simp only [fillIn, cellsOf, this, if_true]
 rfl
theorem set3_get {os : List Ob} {n : Ob} {sd sd' : List SD} (h : os[3]? = some (.map (esD sd) sd.length)) : ((os.set 2 n).set 3 (.map (esD sd') sd'.length))[3]? = some (.map (esD sd') sd'.length) := List.getElem?_set_self (by rw [List.length_set]; exact (List.getElem?_eq_some_iff.1 h).1)
theorem set3_off {os : List Ob} {n s o : Ob} (h : os[1]? = some o) : ((os.set 2 n).set 3 s)[1]? = some o := by
 rw [List.getElem?_set_ne (by omega), List.getElem?_set_ne (by omega)]; exact h
theorem set3_same {os : List Ob} {n s : Ob} (h : os[3]? = some s) : (os.set 2 n).set 3 s = os.set 2 n := set_same (by rw [List.getElem?_set_ne (by omega)]; exact h)
structure WS where
 c : Nat
 sd : List SD
 ts : List Nat
structure WInv (D : List Int) (T : Nat) (oa : Acc) (a : Nat) (st0 : Stand) (vl : List Int) (s : WS) : Prop where
 le : s.c ≤ vl.length
 run : standV D a st0 (vl.take s.c) = s.sd.map SD.pr
 live : Live T s.ts (oa :: s.sd.map SD.acc)
 bnd : ∀ e, e ∈ s.sd → e.l.length ≤ 1024 * a + s.c ∧ ∀ q, q ∈ e.l → 0 ≤ q ∧ q ≤ a
 cnt : s.sd.length ≤ 1024 * a + s.c
theorem WInv.skip {D : List Int} {T : Nat} {oa : Acc} {a : Nat} {st0 : Stand} {vl : List Int} {s : WS} (h : WInv D T oa a st0 vl s) {v : Int} (ev : vl[s.c]? = some v) (hv : v ∈ D) : WInv D T oa a st0 vl ⟨s.c + 1, s.sd, s.ts⟩ := by
 have hlt := (List.getElem?_eq_some_iff.1 ev).1
 refine ⟨hlt, ?_, h.live, fun e he => ⟨by have := (h.bnd e he).1; show _ ≤ 1024 * a + (s.c + 1); omega, (h.bnd e he).2⟩, by have := h.cnt; show s.sd.length ≤ 1024 * a + (s.c + 1); omega⟩
 have := h.run
 unfold standV at this ⊢
 rw [foldl_succ ev, this, if_pos hv]
theorem WInv.put {D : List Int} {T : Nat} {oa : Acc} {a : Nat} {st0 : Stand} {vl : List Int} {s : WS} (h : WInv D T oa a st0 vl s) {v : Int} (ev : vl[s.c]? = some v) (hv : v ∉ D) {sd' : List SD} {ts' : List Nat} (hl : Live T ts' (oa :: sd'.map SD.acc)) (hp : sd'.map SD.pr = standAdd (s.sd.map SD.pr) v a)
  (hb : ∀ e, e ∈ sd' → e.l.length ≤ 1024 * a + s.c + 1 ∧ ∀ q, q ∈ e.l → q = (a : Int) ∨ ∃ e0, e0 ∈ s.sd ∧ q ∈ e0.l) (hc : sd'.length ≤ s.sd.length + 1) : WInv D T oa a st0 vl ⟨s.c + 1, sd', ts'⟩ := by
 have hlt := (List.getElem?_eq_some_iff.1 ev).1
 refine ⟨hlt, ?_, hl, fun e he => ⟨(hb e he).1, fun q hq => ?_⟩, by have := h.cnt; show sd'.length ≤ 1024 * a + (s.c + 1); omega⟩
 ·have := h.run
  unfold standV at this ⊢
  rw [foldl_succ ev, this, if_neg hv, hp]
 ·rcases (hb e he).2 q hq with rfl | ⟨e0, h0, h1⟩
  ·omega
  ·exact (h.bnd e0 h0).2 q h1
theorem NInv.next {L : List StateP} {root : Int} {cls D : List Int} {B T : Nat} {s : NS} (h : NInv L root cls D B T s) {k0 : Int} {p : StateP} (ek : s.x.ord[s.a]? = some k0) (es : L[k0.toNat]? = some p) {q : HS} (hq : HInv L cls T s.x.ord p.heads.l s.sd q) (hb : p.heads.l.length ≤ q.b) (hv : p.vars.l.length ≤ 1024) {m : Nat} (hm : s.m = m + 1)
  {w : WS} (hw : WInv D T (ordA q.ord q.k1 q.o1) s.a s.x.st p.vars.l w) (hc : p.vars.l.length ≤ w.c) :
  NInv L root cls D B T ⟨m, s.a + 1, ⟨q.ord, s.x.outs ++ [(p.plus, q.hs)], w.sd.map SD.pr⟩, w.sd, q.k1, q.o1, .arr (B + ((s.os.set 2 (numO cls q.ord)).set 3 (.map (esD w.sd) w.sd.length)).length) 0 (s.rows.length + 1) (s.rows.length + 1) 3, some ((s.os.set 2 (numO cls q.ord)).set 3 (.map (esD w.sd) w.sd.length)).length, s.rows ++ [[.p (.bool p.plus), q.hv, .p .nilsl]],
   osKill ((s.os.set 2 (numO cls q.ord)).set 3 (.map (esD w.sd) w.sd.length)) s.on ++ [.cells (s.rows.flatten ++ [[.p (.bool p.plus), q.hv, .p .nilsl]].flatten)], w.ts⟩ := by
 have h3 := (List.getElem?_eq_some_iff.1 h.sta).1
 have hge := h.ge
 have hold : ∀ {j : Nat}, j < 4 → (osKill ((s.os.set 2 (numO cls q.ord)).set 3 (.map (esD w.sd) w.sd.length)) s.on ++ [.cells (s.rows.flatten ++ [[V.p (.bool p.plus), q.hv, .p .nilsl]].flatten)])[j]? = ((s.os.set 2 (numO cls q.ord)).set 3 (.map (esD w.sd) w.sd.length))[j]? := by
  intro j hj
  rw [List.getElem?_append_left (by rw [osKill_len]; simp; omega), osKill_get (fun e => by have := hge j e; omega)]
 have hrun := hq.run
 rw [List.take_of_length_le hb] at hrun
 have hwr := hw.run
 rw [List.take_of_length_le hc] at hwr
 have hbl := hq.le
 have hcl := hw.le
 have hlt := (List.getElem?_eq_some_iff.1 ek).1
 refine ⟨(hold (by omega)).trans (set3_off h.off), (hold (by omega)).trans ?_, (hold (by omega)).trans (set3_get h.sta), ?_, fun i hi => ?_, ?_, hw.live, hq.ord, ?_, ?_, rfl, fun e he => ?_, ?_, ?_, ?_⟩
 ·rw [List.getElem?_set_ne (by omega)]; exact List.getElem?_set_self (by omega)
 ·have hr3 : ∀ r, r ∈ s.rows → r.length = 3 := h.out.all_len fun r a hr => hr.len
  have hf : (s.rows ++ [[.p (.bool p.plus), q.hv, .p .nilsl]]).flatten = s.rows.flatten ++ [[V.p (.bool p.plus), q.hv, .p .nilsl]].flatten := List.flatten_append
  rw [hf, List.length_append]
  refine .arr _ _ _ ?_ ?_
  ·rw [List.getElem?_append_right (by rw [osKill_len]; omega), osKill_len]; simp
  ·rw [List.length_append, flat_len hr3]; simp; omega
 ·simp only [Option.some.injEq] at hi
  subst hi; simp; omega
 ·show L2 OutR (s.rows ++ [_]) ((s.x.outs ++ [(p.plus, q.hs)]).map _)
  rw [List.map_append, List.map_cons, List.map_nil]
  exact h.out.snoc ⟨q.hv, .p .nilsl, q.hs, [], rfl, hq.heads, Or.inl ⟨rfl, rfl⟩, rfl, rfl⟩
 ·show s.a + 1 = (s.x.outs ++ [(p.plus, q.hs)]).length
  have := h.al; simp; omega
 ·show s.a + 1 ≤ q.ord.length
  have := hq.mono; omega
 ·have := hw.bnd e he
  have h1 := this.1
  exact ⟨by show _ ≤ 1024 * (s.a + 1); omega, fun z hz => by have := this.2 z hz; show 0 ≤ z ∧ z < ((s.a + 1 : Nat) : Int); omega⟩
 ·have := hw.cnt
  show w.sd.length ≤ 1024 * (s.a + 1); omega
 ·rw [← h.run, hm]
  show _ = if s.a < s.x.ord.length then _ else _
  rw [if_pos hlt]
  show normF L cls D m (s.a + 1) _ = normF L cls D m (s.a + 1) (stepN L cls D s.a s.x)
  congr 1
  unfold stepN
  rw [List.getD_eq_getElem?_getD, ek]
  simp only [Option.getD_some, es, hrun, hwr]
 ·have := h.fuel
  show L.length + 3 ≤ m + (s.a + 1); omega
theorem NInv.fin {L : List StateP} {root : Int} {cls D : List Int} {B T : Nat} {s : NS} (h : NInv L root cls D B T s) (ha : s.x.ord.length ≤ s.a) : s.x = normN L root := by
 rw [← h.run]
 cases s.m with
 | zero => rfl
 | succ m =>
  show s.x = if _ then _ else _
  rw [if_neg (by omega)]
section
variable {E : Env} {qt : Bool} {ops : Array Oper} {l : List Oper} {K : St → Prop}
variable {nt : Nat} {esc : Nat → Bool} {g : G} {os : List Ob} {ts : List Nat}
variable {d : Nat} {ty : TypeId} {pos : String} {after : Array Edge} {gd : Option (Nat × Bool)}
variable {b : Nat → V} {L : List (Nat × V)} {rb : Nat → Option (Nat × List V)} {R : List (Nat × (Nat × List V))}
theorem x_mkmapI {t : TypeId} {i : Nat} (h : wX ops nt L gd = some true) (hd : Nat.blt d nt = true) (hi : os.length = i) (k : wpL E qt ops l (Sx nt b ((d, .map (g.objs.length + i)) :: L) rb R esc (g.ext (os ++ [.map [] 0]) ts)) K) :
  wpL E qt ops (⟨some d, .makeMap t none, ty, pos, after, gd⟩ :: l) (Sx nt b L rb R esc (g.ext os ts)) K := by
 subst hi
 exact x_mkmap h hd k
end
theorem arr_keep {B : Nat} {os os' : List Ob} {m n : Nat} {v : V} {cs : List V} {o : Option Nat} (h : ArrAt B os m v cs n o) (hk : ∀ i, o = some i → os'[i]? = os[i]?) : ArrAt B os' m v cs n o := by
 cases h with
 | nil => exact .nil
 | arr i _ _ ho hl => exact .arr i _ _ ((hk i rfl).trans ho) hl
theorem arr_get {B : Nat} {os : List Ob} {m n : Nat} {v : V} {cs : List V} {o : Option Nat} (h : ArrAt B os m v cs n o) (hn : 0 < n) : ∃ i, v = .arr (B + i) 0 n n m ∧ o = some i ∧ os[i]? = some (.cells cs) := by
 cases h with
 | nil => omega
 | arr i _ _ ho hl => exact ⟨i, rfl, rfl, ho⟩
theorem arr_one {B : Nat} {os : List Ob} {m n : Nat} {v : V} {cs : List V} {o : Option Nat} (h : ArrAt B os m v cs n o) : (cellsOf v).all one = true := by
 cases h <;> rfl
theorem row_get {B : Nat} {os : List Ob} {v : V} {us : List (List Int)} {o : Option Nat} (h : RowV B os v us o) (hn : 0 < us.length) : ∃ i cap C nz, v = .arr (B + i) 0 us.length cap 1 ∧ o = some i ∧ os[i]? = some (.cells (C ++ nz)) ∧ RowsOf C us := by
 cases h with
 | nil => simp at hn
 | arr i cap C nz us ho hr => exact ⟨i, cap, C, nz, rfl, rfl, ho, hr⟩
theorem esD_lt {sd : List SD} {e : PV × V × Nat} (h : e ∈ esD sd) : e.2.2 < sd.length := by
 obtain ⟨d, h1, _⟩ := esD_mem h
 exact (List.getElem?_eq_some_iff.1 h1).1
theorem esD_uniq {sd : List SD} {e e' : PV × V × Nat} (h : e ∈ esD sd) (h' : e' ∈ esD sd) (he : e'.2.2 = e.2.2) : e' = e := by
 obtain ⟨d, h1, h2⟩ := esD_mem h
 obtain ⟨d', h3, h4⟩ := esD_mem h'
 rw [he, h1] at h3
 cases h3
 rw [h2, h4, he]
theorem IInv.start {B : Nat} {sd : List SD} {io : Nat} {cells : List V} {os : List Ob} (hs : os[3]? = some (.map (esD sd) sd.length)) (ho : os[io]? = some (.cells cells)) (h4 : 4 ≤ io) :
  IInv B sd os.length io cells (os ++ [.iter (some (B + 3)) sd.length [] sd.length]) [] sd.length (.p .nilsl) [] [] none := by
 have h3 := (List.getElem?_eq_some_iff.1 hs).1
 have hi := (List.getElem?_eq_some_iff.1 ho).1
 exact ⟨List.nodup_nil, fun i hi => by simp at hi, rfl, .nil, RowsOf.nil, by simp, by rw [List.getElem?_append_left h3]; exact hs, Or.inl rfl, (fun i hi => by cases hi), by rw [List.getElem?_append_left hi]; exact ho, ⟨hi, h3, by omega⟩⟩
structure US where
 b : Nat
 rows : List (List V)
 A : List Acc
 vs : List (List Int)
 ts : List Nat
structure UInv (T : Nat) (outs : List (Bool × List Head)) (RR : List (List Int)) (u : US) : Prop where
 v : VInv T u.ts outs u.rows u.A u.vs
 le : u.b ≤ RR.length
 run : u.vs = (RR.zipIdx.take u.b).foldl (fun vs x => varAdd vs x.2 x.1) (List.replicate outs.length [])
 bnd : ∀ i, (u.vs.getD i []).length ≤ u.b * 140000
structure QInv (T : Nat) (outs : List (Bool × List Head)) (bq : Nat) (l : List Int) (vs0 : List (List Int)) (u : US) : Prop where
 v : VInv T u.ts outs u.rows u.A u.vs
 le : u.b ≤ l.length
 run : u.vs = (l.take u.b).foldl (fun vs i => vs.set i.toNat (vs.getD i.toNat [] ++ [((bq : Nat) : Int)])) vs0
 bnd : ∀ i, (u.vs.getD i []).length ≤ bq * 140000 + u.b
theorem QInv.next {T : Nat} {outs : List (Bool × List Head)} {bq : Nat} {l : List Int} {vs0 : List (List Int)} {u : US} (h : QInv T outs bq l vs0 u) {iv : Int} (ev : l[u.b]? = some iv) {q : Bool × List Head} {hv vv : V} {kk : SK} {o' : Option Nat} {ts' : List Nat} (hq : outs[iv.toNat]? = some q) (hr : u.rows[iv.toNat]? = some [.p (.bool q.1), hv, vv])
  (hl : Live T ts' (u.A.set iv.toNat ⟨1, .sl ((u.vs.getD iv.toNat []).map eRow ++ [eRow ((bq : Nat) : Int)]) kk, (u.vs.getD iv.toNat []).map eRow ++ [eRow ((bq : Nat) : Int)], o'⟩)) :
  QInv T outs bq l vs0 ⟨u.b + 1, u.rows.set iv.toNat [.p (.bool q.1), hv, .sl ((u.vs.getD iv.toNat []).map eRow ++ [eRow ((bq : Nat) : Int)]) kk], u.A.set iv.toNat ⟨1, .sl ((u.vs.getD iv.toNat []).map eRow ++ [eRow ((bq : Nat) : Int)]) kk, (u.vs.getD iv.toNat []).map eRow ++ [eRow ((bq : Nat) : Int)], o'⟩, u.vs.set iv.toNat (u.vs.getD iv.toNat [] ++ [((bq : Nat) : Int)]), ts'⟩ := by
 have hlt := (List.getElem?_eq_some_iff.1 ev).1
 refine ⟨h.v.put hq hr hl, hlt, ?_, fun i => ?_⟩
 ·show _ = (l.take (u.b + 1)).foldl _ _
  rw [foldl_succ ev, ← h.run]
 ·have h1 := h.bnd i
  show ((u.vs.set iv.toNat (u.vs.getD iv.toNat [] ++ [((bq : Nat) : Int)])).getD i []).length ≤ bq * 140000 + (u.b + 1)
  by_cases hi : i = iv.toNat
  ·subst hi
   have h2 := h.v.lv
   have h3 := (List.getElem?_eq_some_iff.1 hq).1
   rw [List.getD_eq_getElem?_getD, List.getElem?_set_self (by omega)]
   simp only [Option.getD_some, List.length_append, List.length_singleton]
   omega
  ·rw [List.getD_eq_getElem?_getD, List.getElem?_set_ne (fun e => hi e.symm), ← List.getD_eq_getElem?_getD]
   omega
theorem UInv.start {T : Nat} {ts : List Nat} {outs : List (Bool × List Head)} {RR : List (List Int)} {rows : List (List V)} (h : L2 OutR rows (outs.map fun p => ⟨p.1, Sl.of p.2, Sl.of []⟩)) :
  UInv T outs RR ⟨0, rows, List.replicate outs.length ⟨1, .p .nilsl, [], none⟩, List.replicate outs.length [], ts⟩ := by
 refine ⟨VInv.start h, Nat.zero_le _, rfl, fun i => ?_⟩
 show ((List.replicate outs.length ([] : List Int)).getD i []).length ≤ _
 rw [List.getD_eq_getElem?_getD, List.getElem?_replicate]; split <;> simp
theorem UInv.next {T : Nat} {outs : List (Bool × List Head)} {RR : List (List Int)} {u w : US} (h : UInv T outs RR u) {l : List Int} (el : RR[u.b]? = some l) (hl : l.length ≤ 140000) (hw : QInv T outs u.b l u.vs w) (hc : l.length ≤ w.b) : UInv T outs RR ⟨u.b + 1, w.rows, w.A, w.vs, w.ts⟩ := by
 have hlt := (List.getElem?_eq_some_iff.1 el).1
 have hwb := hw.le
 have hr := hw.run
 rw [List.take_of_length_le hc] at hr
 refine ⟨hw.v, hlt, ?_, fun i => ?_⟩
 ·show w.vs = (RR.zipIdx.take (u.b + 1)).foldl _ _
  have e : RR.zipIdx[u.b]? = some (l, u.b) := by rw [List.getElem?_zipIdx, el]; simp
  rw [foldl_succ e, ← h.run, hr]
  rfl
 ·have := hw.bnd i
  show (w.vs.getD i []).length ≤ (u.b + 1) * 140000
  rw [Nat.succ_mul]; omega
theorem seal_auto {g : G} {os : List Ob} {ts : List Nat} {i : Nat} {rows : List (List V)} {S : List StateP} {n : Nat} (hw : g.wo = g.objs.length) (ho : os[i]? = some (.cells rows.flatten)) (h : L2 OutR rows S) (hn : S.length = n) :
  sealV (g.ext os ts) (.agg [.arr (g.objs.length + i) 0 n n 3, .p (.int .i64 0)]) = some (.agg [.p (.sl (S.map StateP.enc)), .p (.int .i64 0)]) := by
 subst hn
 have := seal_out (ts := ts) hw ho h
 simp only [sealV, sealCells, this]
 rfl
theorem rows_eq {us : List (List Int)} {sd : List SD} {x : NState} (hp : us.Perm (sd.map SD.l)) (hx : sd.map SD.pr = x.st) : compU (srtL us) (srtL us).length = rowsN x := by
 have e1 : sd.map SD.l = x.st.map (·.2) := by rw [← hx, List.map_map]; rfl
 have e2 : srtL us = srtL (x.st.map (·.2)) := by
  rw [← e1]
  exact srtL_uniq ((srtL_perm us).trans hp) (srtL_le us)
 unfold rowsN
 rw [e2, srtL_len, List.length_map]
end Go.Vm
