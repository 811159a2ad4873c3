/- Part 4 of the texts that the claim leans on: a judgement on the program over plain values, its soundness, and contracts of functions. -/
import Derived.Test.YtmknnanbmkmnjaaGreatDoorW3
set_option linter.unusedVariables false
set_option linter.unusedSimpArgs false
set_option linter.unusedVariables false
namespace Go.Vm
open Go
section
variable {E : Env} {v0 : Vw} {w0 : World} {g0 : G} {v : Vw} {lc : Nat → Nat → Option Nat} {s : St} {a : Act} {w : World} {o : Oper}
theorem rowOk_len {n : Nat} {rows : List (List V)} (h : rows.all (rowOk n) = true) : ∀ r, r ∈ rows → r.length = n := by
 intro r hr
 have := List.all_eq_true.1 h r hr
 simp only [rowOk, Bool.and_eq_true, beq_iff_eq] at this
 exact this.1
theorem Cells.ext {v v' : Vw} (hx : Ext v v') {n : Nat} {rows : List (List V)} {Y : Value} {ys : List Value} (h : Cells v w n rows Y ys) : RepL v' rows.flatten ys := h.rep.ext hx
theorem grow_ok (B : Base v0 w0 g0) (h : Rl E v0 w0 g0 v lc s a w) {st el ut : TypeId} {i : TypeInfo} {d : TypeDesc} (hu : E.P.underlying st = some (.slice el)) (hi : E.P.info? el = some i) {ats : Array TypeId} (h0 : ats[0]? = some st) (h1 : ats[1]? = some ut)
  (hd : E.P.underlying ut = some d) (hdn : d = .string ∨ ∃ e, d = .slice e) {z : List V} (hz : zeroOf E el = some z) (hzl : z.length = i.size) {base : Option Addr} {sCap : Nat} {old new : List (List V)} {Y : Value} {os ns : List Value}
  (ho : Cells v w i.size old (.slice base old.length sCap) os) (hn : Cells v w i.size new Y ns) (hol : ∀ r, r ∈ old → r.length = i.size) (hnl : ∀ r, r ∈ new → r.length = i.size)
  (hroom : sCap < old.length + new.length) (hb : (old.length + new.length) * i.bytes ≤ 2 ^ 47) (hb0 : i.bytes ≠ 0) (ty : TypeId) (pos : Nat) :
  ∃ r w' v', (Builtin.append_ ats ty #[.slice base old.length sCap, Y]).run E.P w = .ok r w' ∧ Ext v v' ∧ Rl E v0 w0 g0 v' lc { s with g := { s.g with toks := s.g.toks ++ [pos] } } a w' ∧
   RepV v' lc (.sl (old ++ new) (.own s.g.toks.length pos i.size)) r := by
 obtain ⟨zv, z1, z2⟩ := r_zero (v := v) hz w
 have hzr : ∀ w, (zeroValue el).run E.P w = .ok zv w := by
  intro w2
  obtain ⟨zv', z3, _⟩ := r_zero (v := v) hz w2
  have : zv' = zv := by
   have e1 : ∀ W, (zeroValue el).run E.P W = match i.zero with | some v => .ok v W | none => .halt (.unsupported (.resourceLimit "a value of more than 2^22 cells")) W := by
    intro W
    simp only [zeroValue, Sem.run_bind, r_info hi, Result.andThen_ok]
    cases i.zero <;> rfl
   rw [e1] at z1 z3
   cases hzz : i.zero with
   | none => rw [hzz] at z1; cases z1
   | some q =>
    rw [hzz] at z1 z3
    injection z1 with z1
    injection z3 with z3
    rw [← z1, ← z3]
  rw [this] at z3
  exact z3
 have hzs : zv.cells.size = i.size := by have := z2.1; simp only [Array.length_toList] at this; omega
 obtain ⟨cap, hcap, hrun⟩ := run_append_grow hu hi h0 h1 hd hdn hzr w (fun w => hn.len E.P w) (fun w' e => ho.run E.P w' e) (fun w' e => hn.run E.P w' e) hroom hb hb0 ty
 have hd1 : Rl E v0 w0 g0 v lc s a { w with drawn := w.drawn + 1 } := h.hle B (HLe.drawn w _)
 have hosl : os.length = old.length * i.size := by rw [← ho.rep.1, flatten_len hol]
 have hnsl : ns.length = new.length * i.size := by rw [← hn.rep.1, flatten_len hnl]
 obtain ⟨hx, hR⟩ := hd1.pushT B (os.toArray ++ ns.toArray ++ Builtin.zeroCells zv.cells (cap - (old.length + new.length))) (os.toArray ++ ns.toArray) el pos (fun j y hj => getElem?_append_some hj)
 refine ⟨_, _, _, hrun, hx, hR, .a (.cell ?_)⟩
 have hall : ∀ r, r ∈ old ++ new → r.length = i.size := by
  intro r hr
  rcases List.mem_append.1 hr with hr | hr
  ·exact hol r hr
  ·exact hnl r hr
 have hrep : RepL v (old ++ new).flatten (os ++ ns) := by rw [List.flatten_append]; exact ho.rep.append hn.rep
 have hlen : (old ++ new).length = old.length + new.length := by simp
 have hC : (os.toArray ++ ns.toArray ++ Builtin.zeroCells zv.cells (cap - (old.length + new.length))).size = cap * i.size := by
  have : (Builtin.zeroCells zv.cells (cap - (old.length + new.length))).size = (cap - (old.length + new.length)) * i.size := by simp [Builtin.zeroCells, hzs]
  simp only [Array.size_append, this, List.size_toArray, hosl, hnsl]
  rw [← Nat.add_mul, ← Nat.add_mul]
  congr 1
  omega
 have := RepC.sl (v := v.addTok w.heap.size (os.toArray ++ ns.toArray ++ Builtin.zeroCells zv.cells (cap - (old.length + new.length))).size pos (os.toArray ++ ns.toArray)) (rows := old ++ new) (a := ⟨w.heap.size, 0, none⟩) (cap := cap) (n := i.size)
  (k := .own s.g.toks.length pos i.size) (fun p q => (os ++ ns).getD (p * i.size + q) undef) (os.toArray ++ ns.toArray) rfl (by omega) hall (fun _ => by simp [Vw.addTok, upd])
  (fun p q r x hr hx2 => by
   have h9 := flatten_at hall hr hx2
   obtain ⟨y, hy, _⟩ := hrep.getElem h9
   simp only [Nat.zero_add]
   have : (os.toArray ++ ns.toArray)[p * i.size + q]? = (os ++ ns)[p * i.size + q]? := by simp
   rw [this, hy]
   simp only [List.getD, hy, Option.getD_some])
  (fun p q r x hr hx2 => by
   have h9 := flatten_at hall hr hx2
   obtain ⟨y, hy, hyr⟩ := hrep.getElem h9
   have : (os ++ ns).getD (p * i.size + q) undef = y := by simp only [List.getD, hy, Option.getD_some]
   rw [this]
   exact hyr.ext hx)
  (fun e => by cases e)
  (fun t p m e => by
   injection e with e1 e2 e3
   subst e1 e2 e3
   have ht : v.toks.length = s.g.toks.length := by rw [h.W.toks]
   refine ⟨pos, by simp [Vw.addTok, ← ht], Nat.le_refl _, fun _ => .inr ⟨by simp [Vw.addTok, upd, ht], os.toArray ++ ns.toArray, by simp [Vw.addTok, upd, ht], ?_, ?_⟩⟩
   ·simp [hosl, hnsl, Nat.add_mul]
   ·have hkn : (v.addTok w.heap.size (os.toArray ++ ns.toArray ++ Builtin.zeroCells zv.cells (cap - (old.length + new.length))).size pos (os.toArray ++ ns.toArray)).kn s.g.toks.length = cap * i.size := by
     simp only [Vw.addTok, ← ht, upd, if_true]
     exact hC
    rw [hkn]
    simp)
 rw [hlen] at this
 exact this
theorem big_ok (B : Base v0 w0 g0) (h : Rl E v0 w0 g0 v lc s a w) {st el ut : TypeId} {i : TypeInfo} {d : TypeDesc} (hu : E.P.underlying st = some (.slice el)) (hi : E.P.info? el = some i) {ats : Array TypeId} (h0 : ats[0]? = some st) (h1 : ats[1]? = some ut)
  (hd : E.P.underlying ut = some d) (hdn : d = .string ∨ ∃ e, d = .slice e) {z : List V} (hz : zeroOf E el = some z) (hzl : z.length = i.size) {base : Option Addr} {sCap : Nat} {old new : List (List V)} {Y : Value} {os ns : List Value}
  (ho : Cells v w i.size old (.slice base old.length sCap) os) (hn : Cells v w i.size new Y ns) (hol : ∀ r, r ∈ old → r.length = i.size) (hnl : ∀ r, r ∈ new → r.length = i.size)
  (hroom : sCap < old.length + new.length) (hb : (old.length + new.length) * i.bytes ≤ 2 ^ 47) (hb0 : i.bytes ≠ 0) (hi0 : i.size ≠ 0) (ty : TypeId) :
  ∃ r w' v', (Builtin.append_ ats ty #[.slice base old.length sCap, Y]).run E.P w = .ok r w' ∧ Ext v v' ∧ Rl E v0 w0 g0 v' lc { s with g := s.g.newObj (.cells (old.flatten ++ new.flatten)) } a w' ∧
   RepV v' lc (.arr s.g.objs.length 0 (old.length + new.length) (old.length + new.length) i.size) r := by
 obtain ⟨zv, z1, z2⟩ := r_zero (v := v) hz w
 have hzr : ∀ w, (zeroValue el).run E.P w = .ok zv w := by
  intro w2
  obtain ⟨zv', z3, _⟩ := r_zero (v := v) hz w2
  have : zv' = zv := by
   have e1 : ∀ W, (zeroValue el).run E.P W = match i.zero with | some v => .ok v W | none => .halt (.unsupported (.resourceLimit "a value of more than 2^22 cells")) W := by
    intro W
    simp only [zeroValue, Sem.run_bind, r_info hi, Result.andThen_ok]
    cases i.zero <;> rfl
   rw [e1] at z1 z3
   cases hzz : i.zero with
   | none => rw [hzz] at z1; cases z1
   | some q =>
    rw [hzz] at z1 z3
    injection z1 with z1
    injection z3 with z3
    rw [← z1, ← z3]
  rw [this] at z3
  exact z3
 have hzs : zv.cells.size = i.size := by have := z2.1; simp only [Array.length_toList] at this; omega
 obtain ⟨cap, hcap, hrun⟩ := run_append_grow hu hi h0 h1 hd hdn hzr w (fun w => hn.len E.P w) (fun w' e => ho.run E.P w' e) (fun w' e => hn.run E.P w' e) hroom hb hb0 ty
 have hd1 : Rl E v0 w0 g0 v lc s a { w with drawn := w.drawn + 1 } := h.hle B (HLe.drawn w _)
 have hosl : os.length = old.length * i.size := by rw [← ho.rep.1, flatten_len hol]
 have hnsl : ns.length = new.length * i.size := by rw [← hn.rep.1, flatten_len hnl]
 have hC : (os.toArray ++ ns.toArray ++ Builtin.zeroCells zv.cells (cap - (old.length + new.length))).size = cap * i.size := by
  have : (Builtin.zeroCells zv.cells (cap - (old.length + new.length))).size = (cap - (old.length + new.length)) * i.size := by simp [Builtin.zeroCells, hzs]
  simp only [Array.size_append, this, List.size_toArray, hosl, hnsl]
  rw [← Nat.add_mul, ← Nat.add_mul]
  congr 1
  omega
 have hzz : RepL v (List.replicate (cap - (old.length + new.length)) z).flatten (Builtin.zeroCells zv.cells (cap - (old.length + new.length))).toList :=
  zeros_rep z2 (by omega) (by omega)
 have hall : RepL v ((old.flatten ++ new.flatten) ++ (List.replicate (cap - (old.length + new.length)) z).flatten) (os.toArray ++ ns.toArray ++ Builtin.zeroCells zv.cells (cap - (old.length + new.length))).toList := by
  have := (ho.rep.append hn.rep).append hzz
  simpa using this
 have hn' : v.nobj = s.g.objs.length := h.W.nobj
 obtain ⟨hx, hR⟩ := hd1.pushO B (.cells (old.flatten ++ new.flatten)) (.cells (os.toArray ++ ns.toArray ++ Builtin.zeroCells zv.cells (cap - (old.length + new.length))) el) (cap * i.size)
  (fun C e fr h => by cases h; exact hC) (.cells (fun i hi hh => by simp at hh) (hall.ext (Ext.addObj v _ _)))
 refine ⟨_, _, _, hrun, hx, hR, .a (.cell ?_)⟩
 exact .arr rfl (by simp [Vw.addObj, hn']) (by simp [Vw.addObj, upd, hn']) (fun _ => ⟨rfl, by simp [Vw.addObj, upd, hn']⟩) (Nat.le_refl _) hcap
theorem move_ok (B : Base v0 w0 g0) (h : Rl E v0 w0 g0 v lc s a w) {st el ut : TypeId} {i : TypeInfo} {d : TypeDesc} (hu : E.P.underlying st = some (.slice el)) (hi : E.P.info? el = some i) {ats : Array TypeId} (h0 : ats[0]? = some st) (h1 : ats[1]? = some ut)
  (hd : E.P.underlying ut = some d) (hdn : d = .string ∨ ∃ e, d = .slice e) {z : List V} (hz : zeroOf E el = some z) (hzl : z.length = i.size) {base : Option Addr} {sCap : Nat} {old new : List (List V)} {Y : Value} {os ns : List Value}
  (ho : Cells v w i.size old (.slice base old.length sCap) os) (hn : Cells v w i.size new Y ns) (hol : ∀ r, r ∈ old → r.length = i.size) (hnl : ∀ r, r ∈ new → r.length = i.size)
  (hroom : sCap < old.length + new.length) (hb : (old.length + new.length) * i.bytes ≤ 2 ^ 47) (hb0 : i.bytes ≠ 0) (ty : TypeId) {k p pos : Nat} (ht : s.g.toks[k]? = some p) (hpos : p < pos) :
  ∃ r w' v', (Builtin.append_ ats ty #[.slice base old.length sCap, Y]).run E.P w = .ok r w' ∧ Ext v v' ∧ Rl E v0 w0 g0 v' lc { s with g := { s.g with toks := s.g.toks.set k pos, wt := min s.g.wt k } } a w' ∧
   RepV v' lc (.sl (old ++ new) (.own k pos i.size)) r := by
 obtain ⟨zv, z1, z2⟩ := r_zero (v := v) hz w
 have hzr : ∀ w, (zeroValue el).run E.P w = .ok zv w := by
  intro w2
  obtain ⟨zv', z3, _⟩ := r_zero (v := v) hz w2
  have : zv' = zv := by
   have e1 : ∀ W, (zeroValue el).run E.P W = match i.zero with | some v => .ok v W | none => .halt (.unsupported (.resourceLimit "a value of more than 2^22 cells")) W := by
    intro W
    simp only [zeroValue, Sem.run_bind, r_info hi, Result.andThen_ok]
    cases i.zero <;> rfl
   rw [e1] at z1 z3
   cases hzz : i.zero with
   | none => rw [hzz] at z1; cases z1
   | some q =>
    rw [hzz] at z1 z3
    injection z1 with z1
    injection z3 with z3
    rw [← z1, ← z3]
  rw [this] at z3
  exact z3
 have hzs : zv.cells.size = i.size := by have := z2.1; simp only [Array.length_toList] at this; omega
 obtain ⟨cap, hcap, hrun⟩ := run_append_grow hu hi h0 h1 hd hdn hzr w (fun w => hn.len E.P w) (fun w' e => ho.run E.P w' e) (fun w' e => hn.run E.P w' e) hroom hb hb0 ty
 have hd1 : Rl E v0 w0 g0 v lc s a { w with drawn := w.drawn + 1 } := h.hle B (HLe.drawn w _)
 have hosl : os.length = old.length * i.size := by rw [← ho.rep.1, flatten_len hol]
 have hnsl : ns.length = new.length * i.size := by rw [← hn.rep.1, flatten_len hnl]
 obtain ⟨hx, hR⟩ := hd1.moveT B ht hpos (os.toArray ++ ns.toArray ++ Builtin.zeroCells zv.cells (cap - (old.length + new.length))) (os.toArray ++ ns.toArray) el (fun j y hj => getElem?_append_some hj)
 refine ⟨_, _, _, hrun, hx, hR, .a (.cell ?_)⟩
 have hall : ∀ r, r ∈ old ++ new → r.length = i.size := by
  intro r hr
  rcases List.mem_append.1 hr with hr | hr
  ·exact hol r hr
  ·exact hnl r hr
 have hrep : RepL v (old ++ new).flatten (os ++ ns) := by rw [List.flatten_append]; exact ho.rep.append hn.rep
 have hlen : (old ++ new).length = old.length + new.length := by simp
 have hC : (os.toArray ++ ns.toArray ++ Builtin.zeroCells zv.cells (cap - (old.length + new.length))).size = cap * i.size := by
  have : (Builtin.zeroCells zv.cells (cap - (old.length + new.length))).size = (cap - (old.length + new.length)) * i.size := by simp [Builtin.zeroCells, hzs]
  simp only [Array.size_append, this, List.size_toArray, hosl, hnsl]
  rw [← Nat.add_mul, ← Nat.add_mul]
  congr 1
  omega
 have := RepC.sl (v := v.moveTok k w.heap.size (os.toArray ++ ns.toArray ++ Builtin.zeroCells zv.cells (cap - (old.length + new.length))).size pos (os.toArray ++ ns.toArray)) (rows := old ++ new) (a := ⟨w.heap.size, 0, none⟩) (cap := cap) (n := i.size)
  (k := .own k pos i.size) (fun p q => (os ++ ns).getD (p * i.size + q) undef) (os.toArray ++ ns.toArray) rfl (by omega) hall (fun _ => by simp [Vw.moveTok, upd])
  (fun p q r x hr hx2 => by
   have h9 := flatten_at hall hr hx2
   obtain ⟨y, hy, _⟩ := hrep.getElem h9
   simp only [Nat.zero_add]
   have : (os.toArray ++ ns.toArray)[p * i.size + q]? = (os ++ ns)[p * i.size + q]? := by simp
   rw [this, hy]
   simp only [List.getD, hy, Option.getD_some])
  (fun p q r x hr hx2 => by
   have h9 := flatten_at hall hr hx2
   obtain ⟨y, hy, hyr⟩ := hrep.getElem h9
   have : (os ++ ns).getD (p * i.size + q) undef = y := by simp only [List.getD, hy, Option.getD_some]
   rw [this]
   exact hyr.ext hx)
  (fun e => by cases e)
  (fun t p' m e => by
   injection e with e1 e2 e3
   subst e1 e2 e3
   have hkv : k < v.toks.length := by rw [h.W.toks]; exact (List.getElem?_eq_some_iff.1 ht).1
   refine ⟨pos, by simp [Vw.moveTok, List.getElem?_set_self hkv], Nat.le_refl _, fun _ => .inr ⟨by simp [Vw.moveTok, upd], os.toArray ++ ns.toArray, by simp [Vw.moveTok, upd], ?_, ?_⟩⟩
   ·simp [hosl, hnsl, Nat.add_mul]
   ·have hkn : (v.moveTok k w.heap.size (os.toArray ++ ns.toArray ++ Builtin.zeroCells zv.cells (cap - (old.length + new.length))).size pos (os.toArray ++ ns.toArray)).kn k = cap * i.size := by
     simp only [Vw.moveTok, upd, if_true]
     exact hC
    rw [hkn]
    simp)
 rw [hlen] at this
 exact this
theorem arr_ok (B : Base v0 w0 g0) (h : Rl E v0 w0 g0 v lc s a w) {st el ut : TypeId} {i : TypeInfo} {d : TypeDesc} (hu : E.P.underlying st = some (.slice el)) (hi : E.P.info? el = some i) {ats : Array TypeId} (h0 : ats[0]? = some st) (h1 : ats[1]? = some ut)
  (hd : E.P.underlying ut = some d) (hdn : d = .string ∨ ∃ e, d = .slice e) {z : List V} (hz : zeroOf E el = some z) (hzl : z.length = i.size) {new : List (List V)} {X Y : Value} {ns : List Value}
  {id len cap : Nat} {cs : List V} (hob : s.g.objs[id]? = some (.cells cs)) (hcs : cs.length = len * i.size) (hX : RepV v lc (.arr id 0 len cap i.size) X)
  (hn : Cells v w i.size new Y ns) (hnl : ∀ r, r ∈ new → r.length = i.size)
  (hb : (len + new.length) * i.bytes ≤ 2 ^ 47) (hb0 : i.bytes ≠ 0) (hi0 : i.size ≠ 0) (hnew : 0 < new.length) (ty : TypeId) :
  ∃ r w' v', (Builtin.append_ ats ty #[X, Y]).run E.P w = .ok r w' ∧ Ext v v' ∧ Rl E v0 w0 g0 v' lc { s with g := (s.g.setObj id .dead).newObj (.cells (cs ++ new.flatten)) } a w' ∧
   RepV v' lc (.arr s.g.objs.length 0 (len + new.length) (len + new.length) i.size) r := by
 have hid := (List.getElem?_eq_some_iff.1 hob).1
 have hk := h.killO B hid
 have hnsl : ns.length = new.length * i.size := by rw [← hn.rep.1, flatten_len hnl]
 have hlen : (s.g.setObj id .dead).objs.length = s.g.objs.length := by simp [G.setObj]
 have hrl : ∀ r, r ∈ chunks i.size len cs → r.length = i.size := by
  intro r hr
  obtain ⟨j, hj⟩ := List.mem_iff_getElem?.1 hr
  rw [chunks_get] at hj
  split at hj
  ·rename_i hjl
   injection hj with hj
   subst hj
   have : (j + 1) * i.size ≤ len * i.size := Nat.mul_le_mul_right _ hjl
   rw [Nat.add_mul] at this
   simp
   omega
  ·cases hj
 obtain ⟨os, hos⟩ := rows_ok h (y := .arr id 0 len cap i.size) (n := i.size) (rows := chunks i.size len cs) (by
  simp only [St.rows, hob]
  have : take? cs 0 (len * i.size) = some cs := by
   unfold take?
   rw [if_pos (by omega)]
   rw [List.drop_zero, ← hcs, List.take_length]
  rw [this]; rfl) hX hrl
 have hcl : (chunks i.size len cs).length = len := chunks_length _ _ _
 have hcf : (chunks i.size len cs).flatten = cs := chunks_flatten _ _ _ hcs
 have hC := hX.arrInv
 cases hC with
 | @arr _ _ _ _ _ c ad g1 g2 g3 g4 g5 g6 =>
  by_cases hroom : len + new.length ≤ c
  ·
   obtain ⟨g7, g8⟩ := g4 (by omega)
   have hobr := h.W.obj id _ hob
   generalize hx0 : w.heap[v.rho id]? = X0 at hobr
   cases hobr with
   | @cells _ ds C el' fr q3 q4 =>
    have hsz : C.size = v.osz id := h.W.osz id g2 C el' fr hx0
    have hmul : (len + new.length) * i.size ≤ c * i.size := Nat.mul_le_mul_right _ hroom
    rw [Nat.add_mul] at hmul
    obtain ⟨w', C', r1, r2, r3, r4⟩ := run_storeCells E.P (v.rho id) (len * i.size) el' fr ns 0 C w hx0 q3 (by omega) hn.rep.oneCell
    have hadd : ad.add (len * i.size) = ⟨v.rho id, len * i.size, none⟩ := by rw [addr_eq g1, g3, g7, Nat.zero_add]
    have hrun := run_append_in hu hi h0 h1 hd hdn w w' (fun w => hn.len E.P w) (fun w' e => hn.run E.P w' e) hroom (by rw [hadd]; exact r1) ty (ad := ad)
    have hq := q4.1
    simp only [List.length_append, Array.length_toList] at hq
    have hfl : new.flatten.length = new.length * i.size := flatten_len hnl
    have hput : put? (cs ++ ds) (len * i.size) new.flatten = some ((cs ++ new.flatten) ++ ds.drop new.flatten.length) := by
     unfold put?
     rw [if_pos (by simp only [List.length_append]; omega), ← hcs]
     rw [List.take_left]
     have : List.drop (cs.length + new.flatten.length) (cs ++ ds) = ds.drop new.flatten.length := by
      rw [List.drop_append]
      simp
     rw [this]
    obtain ⟨h5, _⟩ := put_rep hput q4 hn.rep r2 r4
    obtain ⟨hx, hR⟩ := hk.aliasO B (id := id) (by rw [hlen]; exact hid) (by simp [G.setObj]; omega) (fun i' o' e1 e2 => by
      have hne : i' ≠ id := by
       rintro rfl
       simp [G.setObj, hid] at e1
       subst e1
       cases e2
      have e3 : s.g.objs[i']? = some o' := by
       simp only [G.setObj] at e1
       rw [List.getElem?_set_ne (fun h => hne h.symm)] at e1
       exact e1
      exact fun e => hne (h.W.inj i' id o' _ e3 hob e2 rfl e)) (o := .cells (cs ++ new.flatten)) hx0 r2 r3 (.cells (by rw [r2]; exact q3) (h5.ext (Ext.addObj v _ _)))
    have hn' : v.nobj = s.g.objs.length := h.W.nobj
    refine ⟨_, w', _, hrun, hx, hR, .a (.cell ?_)⟩
    exact .arr g1 (by simp [Vw.addObj, hn']) (by simp [Vw.addObj, upd, hn', g3]) (fun _ => ⟨g7, by simp [Vw.addObj, upd, hn']; omega⟩) (Nat.le_refl _) hroom
  ·
   have hos' : Cells v w i.size (chunks i.size len cs) (.slice (some ad) (chunks i.size len cs).length c) os := by rw [hcl]; exact hos
   obtain ⟨r, w', v', q1, q2, q3, q4⟩ := big_ok B hk hu hi h0 h1 hd hdn hz hzl hos' hn hrl hnl (by rw [hcl]; omega) (by rw [hcl]; exact hb) hb0 hi0 ty
   rw [hcl] at q1
   rw [hcf] at q3
   rw [hcl, hlen] at q4
   exact ⟨r, w', v', q1, q2, q3, q4⟩
theorem append_ok (B : Base v0 w0 g0) (h : Rl E v0 w0 g0 v lc s a w) {st el ut : TypeId} {d : TypeDesc} (hu : E.P.underlying st = some (.slice el)) {ats : Array TypeId} (h0 : ats[0]? = some st) (h1 : ats[1]? = some ut)
  (hd : E.P.underlying ut = some d) (hdn : d = .string ∨ ∃ e, d = .slice e) {x y z : V} {X Y : Value} {s' : St} {dst : Option Tmp} (e : s.append E dst el x y = some (z, s')) (hX : RepV v lc x X) (hY : RepV v lc y Y) (ty : TypeId) :
  ∃ r w' v', (Builtin.append_ ats ty #[X, Y]).run E.P w = .ok r w' ∧ Ext v v' ∧ Rl E v0 w0 g0 v' lc s' a w' ∧ RepV v' lc z r := by
 unfold St.append at e
 split at e
 ·rename_i i zz hi hz
  split at e
  ·
   rename_i hrows
   obtain ⟨ys, hc⟩ := rows_ok h hrows hY (fun r hr => by simp at hr)
   have hys : ys = [] := by
    have := hc.rep.1
    simp at this
    exact List.eq_nil_of_length_eq_zero this.symm
   subst hys
   have fin : ∀ (base : Option Addr) (n cap : Nat), X = .slice base n cap → n ≤ cap → some (x, s) = some (z, s') → ∃ r w' v', (Builtin.append_ ats ty #[X, Y]).run E.P w = .ok r w' ∧ Ext v v' ∧ Rl E v0 w0 g0 v' lc s' a w' ∧ RepV v' lc z r := by
    intro base n cap hXe hle e
    injection e with e
    simp only [Prod.mk.injEq] at e
    obtain ⟨rfl, rfl⟩ := e
    subst hXe
    exact ⟨_, w, v, run_append_none hu hi h0 h1 hd hdn w (fun w => hc.len E.P w) (fun w' e => hc.run E.P w' e) hle ty, Ext.refl v, h, hX⟩
   split at e
   ·have := hX.pInv; generalize X = X' at *; cases this; exact fin none 0 0 rfl (Nat.le_refl _) e
   ·have := hX.pInv; generalize X = X' at *; cases this; exact fin _ _ _ rfl (by assumption) e
   ·have := hX.slInv; generalize X = X' at *; cases this; exact fin _ _ _ rfl (by assumption) e
   ·have := hX.arrInv; generalize X = X' at *; cases this; exact fin _ _ _ rfl (by omega) e
   ·cases e
  ·rename_i new hne hrows
   split at e
   ·cases e
   ·rename_i hcond
    have c1 : i.size ≠ 0 := fun h => hcond (.inl h)
    have c2 : i.bytes ≠ 0 := fun h => hcond (.inr (.inl h))
    have c3 : zz.length = i.size := Classical.byContradiction fun h => hcond (.inr (.inr (.inl h)))
    have c4 : new.all (rowOk i.size) = true := Classical.byContradiction fun h => hcond (.inr (.inr (.inr h)))
    have hnl := rowOk_len c4
    obtain ⟨ns, hcn⟩ := rows_ok h hrows hY hnl
    have hnew0 : 0 < new.length := by
     rcases Nat.eq_zero_or_pos new.length with h0 | h0
     ·exfalso
      have := List.eq_nil_of_length_eq_zero h0
      subst this
      exact hne rfl
     ·exact h0
    split at e
    ·split at e
     ·rename_i hb
      have := hX.pInv
      cases this
      have hco : Cells v w i.size [] (.slice none 0 0) [] := ⟨fun _ _ => rfl, RepL.nil, fun _ _ _ => rfl⟩
      split at e
      ·split at e
       ·injection e with e
        simp only [Prod.mk.injEq] at e
        obtain ⟨rfl, rfl⟩ := e
        obtain ⟨r, w', v', q1, q2, q3, q4⟩ := big_ok B h hu hi h0 h1 hd hdn hz c3 (old := []) (sCap := 0) hco hcn (fun r hr => by simp at hr) hnl (by simpa using hnew0) (by simpa using hb) c2 c1 ty
        exact ⟨r, w', v', q1, q2, by simpa using q3, by simpa using q4⟩
       ·cases e
      injection e with e
      simp only [Prod.mk.injEq] at e
      obtain ⟨rfl, rfl⟩ := e
      obtain ⟨r, w', v', q1, q2, q3, q4⟩ := grow_ok B h hu hi h0 h1 hd hdn hz c3 (old := []) (sCap := 0) hco hcn (fun r hr => by simp at hr) hnl (by simpa using hnew0) (by simpa using hb) c2 ty new.length
      exact ⟨r, w', v', q1, q2, q3, by simpa using q4⟩
     ·cases e
    ·rename_i rows
     split at e
     ·rename_i hb
      obtain ⟨hb, hro⟩ := hb
      have hC := hX.slInv
      have hol := rowOk_len hro
      obtain ⟨os, hco⟩ := RepC.cells h.W hC hol
      obtain ⟨ad, rfl⟩ : ∃ ad, X = .slice (some ad) rows.length rows.length := by
       generalize X = X' at hC
       cases hC with | @sl _ ad cap m _ f cs g1 g2 g3 g4 g5 g6 g7 g8 => exact ⟨ad, by rw [g7 rfl]⟩
      split at e
      ·split at e
       ·injection e with e
        simp only [Prod.mk.injEq] at e
        obtain ⟨rfl, rfl⟩ := e
        obtain ⟨r, w', v', q1, q2, q3, q4⟩ := big_ok B h hu hi h0 h1 hd hdn hz c3 hco hcn hol hnl (by omega) hb c2 c1 ty
        exact ⟨r, w', v', q1, q2, by rw [List.flatten_append]; exact q3, q4⟩
       ·cases e
      injection e with e
      simp only [Prod.mk.injEq] at e
      obtain ⟨rfl, rfl⟩ := e
      exact grow_ok B h hu hi h0 h1 hd hdn hz c3 hco hcn hol hnl (by omega) hb c2 ty (rows.length + new.length)
     ·cases e
    ·rename_i rows k pos m
     split at e
     ·rename_i hb
      obtain ⟨hb, hro, htok, hm⟩ := hb
      subst hm
      injection e with e
      simp only [Prod.mk.injEq] at e
      obtain ⟨rfl, rfl⟩ := e
      have hC := hX.slInv
      have hol := rowOk_len hro
      obtain ⟨os, hco⟩ := RepC.cells h.W hC hol
      have hC' := hC
      cases hC with
      | @sl _ ad cap m _ f cs g1 g2 g3 g4 g5 g6 g7 g8 =>
       obtain ⟨q, t1, t2, t3⟩ := g8 k pos i.size rfl
       have htv : v.toks[k]? = some pos := by rw [h.W.toks]; exact htok
       rw [htv] at t1
       injection t1 with t1
       subst t1
       by_cases hroom : rows.length + new.length ≤ cap
       ·
        rcases t3 rfl with hc | ⟨hbk, cs', b1, b2, b3⟩
        ·omega
        ·have hk : k < v.toks.length := (List.getElem?_eq_some_iff.1 htv).1
         obtain ⟨C, el', fr, cs2, w1, w2, w3, w4⟩ := h.W.tk k hk
         rw [b1] at w4
         injection w4 with w4
         subst w4
         have hnsl : ns.length = new.length * i.size := by rw [← hcn.rep.1, flatten_len hnl]
         have hmul : (rows.length + new.length) * i.size ≤ cap * i.size := Nat.mul_le_mul_right _ hroom
         rw [Nat.add_mul] at hmul
         obtain ⟨w', C', r1, r2, r3, r4⟩ := run_storeCells E.P (v.kap k) (ad.off + rows.length * i.size) el' fr ns 0 C w w1 w2 (by omega) hcn.rep.oneCell
         have hadd : ad.add (rows.length * i.size) = ⟨v.kap k, ad.off + rows.length * i.size, none⟩ := by rw [addr_eq g1, hbk]
         have hrun := run_append_in hu hi h0 h1 hd hdn w w' (fun w => hcn.len E.P w) (fun w' e => hcn.run E.P w' e) hroom (by rw [hadd]; exact r1) ty (ad := ad)
         have hpre : ∀ (j : Nat) (y : Value), (cs' ++ ns.toArray)[j]? = some y → C'[j]? = some y := by
          intro j y hj
          rw [r4]
          simp only [Nat.add_zero]
          by_cases hjc : j < cs'.size
          ·rw [if_neg (by omega)]
           rw [Array.getElem?_append_left hjc] at hj
           obtain ⟨C3, e3, fr3, s1, s2⟩ := h.W.sg _ _ b1
           rw [w1] at s1
           injection s1 with s1
           injection s1 with s1 _ _
           subst s1
           exact s2 j y hj
          ·rw [Array.getElem?_append_right (by omega)] at hj
           have hlt := (Array.getElem?_eq_some_iff.1 hj).1
           simp only [List.size_toArray] at hlt
           rw [if_pos (by omega), b2]
           simpa using hj
         obtain ⟨hx, hR⟩ := h.growT B htok (pos := pos + new.length) (by omega) b1 (ds := ns.toArray) r3 (by rw [r2]; exact w2) (by rw [r2]; exact w3) hpre
         refine ⟨_, w', _, hrun, hx, hR, .a (.cell ?_)⟩
         have hall : ∀ r, r ∈ rows ++ new → r.length = i.size := by
          intro r hr
          rcases List.mem_append.1 hr with hr | hr
          ·exact hol r hr
          ·exact hnl r hr
         have hsgk : (v.growTok k (pos + new.length) (cs' ++ ns.toArray)).sg (v.kap k) = some (cs' ++ ns.toArray) := by simp [Vw.growTok, upd]
         have hmn : rows ≠ [] → m = i.size := by
          intro hne
          obtain ⟨r, hr⟩ := List.exists_mem_of_ne_nil _ hne
          rw [← g3 r hr, hol r hr]
         have key : ∀ p q r x, (rows ++ new)[p]? = some r → r[q]? = some x → ∃ y, (cs' ++ ns.toArray)[ad.off + (p * i.size + q)]? = some y ∧ RepC v x y := by
          intro p q r x hr hx2
          by_cases hp : p < rows.length
          ·rw [List.getElem?_append_left hp] at hr
           have hne : rows ≠ [] := by rintro rfl; simp at hp
           have e1 := hmn hne
           subst e1
           have e2 := g4 hne
           rw [hbk, b1] at e2
           injection e2 with e2
           subst e2
           exact ⟨_, getElem?_append_some (g5 p q r x hr hx2), g6 p q r x hr hx2⟩
          ·rw [List.getElem?_append_right (by omega)] at hr
           have h9 := flatten_at hnl hr hx2
           obtain ⟨y, hy, hyr⟩ := hcn.rep.getElem h9
           refine ⟨y, ?_, hyr⟩
           have e3 : p * i.size = rows.length * i.size + (p - rows.length) * i.size := by rw [← Nat.add_mul, Nat.add_sub_cancel' (by omega)]
           rw [Array.getElem?_append_right (by omega)]
           have e4 : ad.off + (p * i.size + q) - cs'.size = (p - rows.length) * i.size + q := by omega
           rw [e4]
           simpa using hy
         have hlen : (rows ++ new).length = rows.length + new.length := by simp
         have := RepC.sl (v := v.growTok k (pos + new.length) (cs' ++ ns.toArray)) (rows := rows ++ new) (a := ad) (cap := cap) (n := i.size) (k := .own k (pos + new.length) i.size)
          (fun p q => ((cs' ++ ns.toArray)[ad.off + (p * i.size + q)]?).getD undef) (cs' ++ ns.toArray) g1 (by omega) hall (fun _ => by rw [hbk]; exact hsgk)
          (fun p q r x hr hx2 => by obtain ⟨y, hy, _⟩ := key p q r x hr hx2; rw [hy]; rfl)
          (fun p q r x hr hx2 => by obtain ⟨y, hy, hyr⟩ := key p q r x hr hx2; rw [hy]; exact hyr.ext hx)
          (fun e => by cases e)
          (fun t p m e => by
           injection e with e1 e2 e3
           subst e1 e2 e3
           refine ⟨pos + new.length, by simp [Vw.growTok, List.getElem?_set_self hk], Nat.le_refl _, fun _ => .inr ⟨hbk, cs' ++ ns.toArray, hsgk, ?_, b3⟩⟩
           simp only [Array.size_append, List.size_toArray, hlen, hnsl, Nat.add_mul]
           omega)
         rw [hlen] at this
         exact this
       ·
        have hXe : RepC v (.sl rows (.own k pos i.size)) (.slice (some ad) rows.length cap) := hC'
        exact move_ok B h hu hi h0 h1 hd hdn hz c3 hco hcn hol hnl (by omega) hb c2 ty htok (by omega)
     ·cases e
    ·rename_i id off len cap m
     split at e
     ·rename_i cs hob
      split at e
      ·rename_i hb
       obtain ⟨hb, hoff, hm, hcs, _⟩ := hb
       subst hoff hm
       injection e with e
       simp only [Prod.mk.injEq] at e
       obtain ⟨rfl, rfl⟩ := e
       exact arr_ok B h hu hi h0 h1 hd hdn hz c3 hob hcs hX hcn hnl hb c2 c1 hnew0 ty
      ·cases e
     ·cases e
    ·cases e
  ·cases e
 ·cases e
end
end Go.Vm
set_option linter.unusedVariables false
namespace Go.Vm
open Go
section
variable {E : Env} {v0 : Vw} {w0 : World} {g0 : G} {v : Vw} {lc : Nat → Nat → Option Nat} {s : St} {a : Act} {w : World} {o : Oper}
theorem two_args {args : Array Operand} {X Y : V} {s : St} (h : evL E s args.toList = some [X, Y]) (hl : ([X, Y] : List V).length = (args.toList.map a.eval).length) : ∃ p q, args = #[p, q] := by
  match hh : args.toList, hl with
  | [p, q], _ => exact ⟨p, q, by rw [← Array.toArray_toList (xs := args), hh]⟩
  | [], q1 => simp at q1
  | [_], q1 => simp at q1
  | _ :: _ :: _ :: _, q1 => simp at q1
theorem step_append (B : Base v0 w0 g0) (h : Rl E v0 w0 g0 v lc s a w) {args : Array Operand} {ats : Array TypeId} (ho : o.op = .call { callee := .builtin .append, args := args, argTypes := ats }) {x : V} {s' : St} (e : stepV E s o = some (x, s')) : OpOk E v0 w0 g0 v lc a w o x s' := by
  simp only [stepV, ho] at e
  split at e
  · rename_i X Y t u hl h0 h1
    obtain ⟨q1, q2⟩ := evL_ok h hl
    obtain ⟨p, q, rfl⟩ := two_args (E := E) hl q1
    have hX := q2 0 X (a.eval p) rfl rfl
    have hY := q2 1 Y (a.eval q) rfl rfl
    have fin : ∀ el d, Vm.elemOf E t = some el → E.P.underlying u = some d → (d = .string ∨ ∃ e, d = .slice e) → s.append E o.dst el X Y = some (x, s') → OpOk E v0 w0 g0 v lc a w o x s' := by
      intro el d he hd hdn e
      obtain ⟨r, w', v', r1, r2, r3, r4⟩ := append_ok B h (elemOf_ok he) h0 h1 hd hdn e hX hY o.type
      refine ⟨_, w', v', lc, r, ?_, .inl rfl, r2, fun _ _ _ h => h, r3, r4⟩
      simp [execOp, ho, resolve, invoke, builtin, r1]
    split at e
    · rename_i el e0 he hd
      exact fin el _ he hd (.inr ⟨_, rfl⟩) e
    · rename_i el he hd
      exact fin el _ he hd (.inl rfl) e
    · cases e
  · cases e
theorem maxL_ok (w : World) : ∀ {l : List V} {ys : List Value} {x z : V} {y : Value}, maxL x l = some z → RepV v lc x y → l.length = ys.length → (∀ (i : Nat) (x : V) (y : Value), l[i]? = some x → ys[i]? = some y → RepV v lc x y) →
    ∃ r, (ys.foldlM Builtin.max2 y).run E.P w = .ok r w ∧ RepV v lc z r
  | [], [], x, z, y, e, hx, _, _ => by
    have : x = z := by cases x <;> (first | (unfold maxL at e; injection e) | (simp [maxL] at e; exact e))
    subst this
    exact ⟨y, rfl, hx⟩
  | [], _ :: _, _, _, _, _, _, hl, _ => absurd hl (by simp)
  | _ :: _, [], _, _, _, _, _, hl, _ => absurd hl (by simp)
  | b :: l, y' :: ys, x, z, y, e, hx, hl, hr => by
    have hb := hr 0 b y' rfl rfl
    unfold maxL at e
    split at e
    · rename_i heq; cases heq
    · rename_i k m k' n l' heq
      injection heq with e1 e2
      subst e1 e2
      rw [RepA.int_inv hx]
      rw [RepA.int_inv hb]
      obtain ⟨r, h1, h2⟩ := maxL_ok w (ys := ys) (y := .int k (if n > m then n else m)) e (RepV.p_of .int) (by simpa using hl) (fun i x y hx hy => hr (i + 1) x y (by simpa using hx) (by simpa using hy))
      refine ⟨r, ?_, h2⟩
      rw [List.foldlM_cons, Sem.run_bind]
      simp only [Builtin.max2, Sem.run_pure, Result.andThen_ok]
      exact h1
    · cases e
theorem minL_ok (w : World) : ∀ {l : List V} {ys : List Value} {x z : V} {y : Value}, minL x l = some z → RepV v lc x y → l.length = ys.length → (∀ (i : Nat) (x : V) (y : Value), l[i]? = some x → ys[i]? = some y → RepV v lc x y) →
    ∃ r, (ys.foldlM Builtin.min2 y).run E.P w = .ok r w ∧ RepV v lc z r
  | [], [], x, z, y, e, hx, _, _ => by
    have : x = z := by cases x <;> (first | (unfold minL at e; injection e) | (simp [minL] at e; exact e))
    subst this
    exact ⟨y, rfl, hx⟩
  | [], _ :: _, _, _, _, _, _, hl, _ => absurd hl (by simp)
  | _ :: _, [], _, _, _, _, _, hl, _ => absurd hl (by simp)
  | b :: l, y' :: ys, x, z, y, e, hx, hl, hr => by
    have hb := hr 0 b y' rfl rfl
    unfold minL at e
    split at e
    · rename_i heq; cases heq
    · rename_i k m k' n l' heq
      injection heq with e1 e2
      subst e1 e2
      rw [RepA.int_inv hx]
      rw [RepA.int_inv hb]
      obtain ⟨r, h1, h2⟩ := minL_ok w (ys := ys) (y := .int k (if n < m then n else m)) e (RepV.p_of .int) (by simpa using hl) (fun i x y hx hy => hr (i + 1) x y (by simpa using hx) (by simpa using hy))
      refine ⟨r, ?_, h2⟩
      rw [List.foldlM_cons, Sem.run_bind]
      simp only [Builtin.min2, Sem.run_pure, Result.andThen_ok]
      exact h1
    · cases e
theorem step_max (h : Rl E v0 w0 g0 v lc s a w) {args : Array Operand} {ats : Array TypeId} (ho : o.op = .call { callee := .builtin .max, args := args, argTypes := ats }) {x : V} {s' : St} (e : stepV E s o = some (x, s')) : OpOk E v0 w0 g0 v lc a w o x s' := by
  simp only [stepV, ho] at e
  split at e
  · rename_i X l hl
    cases hm : maxL X l with
    | none => rw [hm] at e; cases e
    | some z =>
      rw [hm] at e
      injection e with e
      simp only [Prod.mk.injEq] at e
      obtain ⟨rfl, rfl⟩ := e
      obtain ⟨q1, q2⟩ := evL_ok h hl
      match hh : args.toList.map a.eval, q1, q2 with
      | [], q1, q2 => simp at q1
      | y :: ys, q1, q2 =>
        obtain ⟨r, r1, r2⟩ := maxL_ok (E := E) w hm (q2 0 X y rfl rfl) (by simpa using q1) (fun i x y hx hy => q2 (i + 1) x y (by simpa using hx) (by simpa using hy))
        refine OpOk.pure h (y := r) ?_ r2
        have : (args.map a.eval).toList = y :: ys := by rw [Array.toList_map, hh]
        simp only [execOp, ho, resolve, invoke, builtin, Sem.run_bind, Sem.run_pure, Result.andThen_ok, Builtin.max_, this, r1]
  · cases e
theorem step_min (h : Rl E v0 w0 g0 v lc s a w) {args : Array Operand} {ats : Array TypeId} (ho : o.op = .call { callee := .builtin .min, args := args, argTypes := ats }) {x : V} {s' : St} (e : stepV E s o = some (x, s')) : OpOk E v0 w0 g0 v lc a w o x s' := by
  simp only [stepV, ho] at e
  split at e
  · rename_i X l hl
    cases hm : minL X l with
    | none => rw [hm] at e; cases e
    | some z =>
      rw [hm] at e
      injection e with e
      simp only [Prod.mk.injEq] at e
      obtain ⟨rfl, rfl⟩ := e
      obtain ⟨q1, q2⟩ := evL_ok h hl
      match hh : args.toList.map a.eval, q1, q2 with
      | [], q1, q2 => simp at q1
      | y :: ys, q1, q2 =>
        obtain ⟨r, r1, r2⟩ := minL_ok (E := E) w hm (q2 0 X y rfl rfl) (by simpa using q1) (fun i x y hx hy => q2 (i + 1) x y (by simpa using hx) (by simpa using hy))
        refine OpOk.pure h (y := r) ?_ r2
        have : (args.map a.eval).toList = y :: ys := by rw [Array.toList_map, hh]
        simp only [execOp, ho, resolve, invoke, builtin, Sem.run_bind, Sem.run_pure, Result.andThen_ok, Builtin.min_, this, r1]
  · cases e
theorem step_clear (B : Base v0 w0 g0) (h : Rl E v0 w0 g0 v lc s a w) {args : Array Operand} {ats : Array TypeId} (ho : o.op = .call { callee := .builtin .clear, args := args, argTypes := ats }) {x : V} {s' : St} (e : stepV E s o = some (x, s')) : OpOk E v0 w0 g0 v lc a w o x s' := by
  simp only [stepV, ho] at e
  split at e
  · rename_i id off len cap t hl ht
    split at e
    · rename_i el hel
      split at e
      · rename_i z hz
        split at e
        · cases e
        · rename_i hlen
          obtain ⟨s1, hs, he⟩ := Option.map_eq_some_iff.1 e
          cases he
          obtain ⟨q1, q2⟩ := evL_ok h hl
          match hh : args.toList.map a.eval, q1, q2 with
          | [], q1, q2 => simp at q1
          | _ :: _ :: _, q1, q2 => simp at q1
          | [y], q1, q2 =>
            have hy := q2 0 _ y rfl rfl
            have hargs : args.map a.eval = #[y] := by apply Array.toList_inj.1; rw [Array.toList_map, hh]
            obtain ⟨zv, z1, z2⟩ := r_zero (v := v) hz w
            cases hy with
            | a hy => cases hy with | cell hy => cases hy with
              | @arr _ _ _ _ _ c ad h1 h2 h3 h4 h5 h6 =>
                obtain ⟨b, off', sp⟩ := ad
                simp only at h1 h3 h4
                obtain ⟨rfl, _⟩ := h4 (by omega)
                subst h1 h3
                obtain ⟨zs, hzs⟩ : ∃ q, zv.cells = #[q] := by
                  have := z2.1
                  simp only [List.length_cons, List.length_nil, Array.length_toList] at this
                  exact ⟨zv.cells[0], by apply Array.ext (by simp; omega); intro i i1 i2; have : i = 0 := by simp at i2; omega
                                         subst this; simp⟩
                have hzr : RepC v z zs := z2.2 0 z zs rfl (by rw [hzs]; rfl)
                have hzc : (Builtin.zeroCells zv.cells len).toList = List.replicate len zs := by
                  rw [hzs]
                  simp [Builtin.zeroCells]
                  apply List.ext_getElem
                  · simp
                  · intro i h1 h2
                    simp [Nat.mod_one]
                have hL : RepL v (List.replicate len z) (List.replicate len zs) := by
                  refine ⟨by simp, fun i x y hx hy => ?_⟩
                  rw [List.getElem?_replicate] at hx hy
                  split at hx
                  · rename_i hi; rw [if_pos hi] at hy; cases hx; cases hy; exact hzr
                  · cases hx
                obtain ⟨ad, w', p1, p2, p3⟩ := storeCells_ok B h hs (.a (.cell (.ptr h2))) hL
                injection p1 with p1
                injection p1 with p1
                subst p1
                have hu : E.P.underlying t = some (.slice el) := by
                  unfold elemOf at hel
                  split at hel
                  · rename_i e' hu; cases hel; exact hu
                  · cases hel
                obtain ⟨m, rfl⟩ : ∃ m, len = m + 1 := ⟨len - 1, by omega⟩
                refine ⟨.value (.tuple #[]), w', v, lc, .tuple #[], ?_, .inl rfl, Ext.refl v, fun _ _ _ h => h, p3, .tup rfl fun i x y h => by simp at h⟩
                simp [execOp, ho, resolve, invoke, builtin, hargs, ht, Builtin.clear_, run_underlying hu, z1, hzc, p2]
      · cases e
    · cases e
  · cases e
theorem stepV_ok (B : Base v0 w0 g0) (h : Rl E v0 w0 g0 v lc s a w) {x : V} {s' : St} (e : stepV E s o = some (x, s')) : OpOk E v0 w0 g0 v lc a w o x s' := by
  cases ho : o.op with
  | move p => exact step_move h (.inl ho) e
  | assign p => exact step_move h (.inr ho) e
  | pick c p q => exact step_pick h ho e
  | alloc t => exact step_alloc B h ho e
  | box t p => exact step_box B h ho e
  | build t ps => exact step_build h ho e
  | buildSlice t n ps => exact step_buildSlice B h ho e
  | load t p => exact step_load h ho e
  | store t p q => exact step_store B h ho e
  | nilCheck p => exact step_nilCheck h ho e
  | binOp op t p q u => exact step_bin h ho e
  | unOp op t p => exact step_un h ho e
  | convert src dst p => exact step_conv h ho e
  | makeFunc f fs cs => exact step_makeFunc h ho e
  | makeMap t r => exact step_makeMap B h ho e
  | makeSlice t l c => exact step_makeSlice B h ho e
  | slice t p lo hi mx => exact step_slice h ho e
  | fieldAddr t p f => exact step_fieldAddr h ho e
  | field t p f => exact step_field h ho e
  | indexAddr t p q => exact step_indexAddr h ho e
  | index t p q => exact step_index h ho e
  | lookup t p q ok => exact step_lookup h ho e
  | mapUpdate t m k p => exact step_mapUpdate B h (.inl ho) e
  | insert t m k p => exact step_mapUpdate B h (.inr ho) e
  | range t p => exact step_range B h ho e
  | entry p => exact step_entry h ho e
  | extract p i => exact step_extract h ho e
  | call c =>
    obtain ⟨callee, args, ats⟩ := c
    cases callee with
    | builtin b =>
      cases b with
      | len => exact step_len h ho e
      | append => exact step_append B h ho e
      | max => exact step_max h ho e
      | min => exact step_min h ho e
      | clear => exact step_clear B h ho e
      | _ => simp [stepV, ho] at e
    | _ => simp [stepV, ho] at e
  | _ => simp [stepV, ho] at e
theorem put_ok (h : Rl E v0 w0 g0 v lc s a w) {dst : Option Tmp} {x : V} {y : Value} {s' : St} (e : s.put dst x = some s') (hy : RepV v lc x y) : Rl E v0 w0 g0 v lc s' (a.put dst y) w := by
  unfold St.put at e
  split at e
  · rename_i d
    split at e
    · rename_i hd
      injection e with e
      subst e
      refine ⟨h.W, ⟨by simp [Act.put, h.F.nt], h.F.df, fun t => ?_, h.F.rg, h.F.rd, h.F.lb⟩, h.S, h.H⟩
      simp only [Act.put, upd]
      have hlt : d < a.tmps.size := by rw [← h.F.nt]; exact hd
      by_cases ht : t = d
      · subst ht
        simp [Array.getD, hlt, hy]
      · rw [if_neg ht]
        have := h.F.tm t
        have e1 : (a.tmps.setIfInBounds d y).getD t undef = a.tmps.getD t undef := by
          simp only [Array.getD_eq_getD_getElem?, Array.getElem?_setIfInBounds]
          rw [if_neg (fun e => ht e.symm)]
        rw [e1]
        exact this
    · cases e
  · injection e with e
    subst e
    exact h
theorem wants_ok (h : Rl E v0 w0 g0 v lc s a w) {ops : Array Oper} {b : Bool} (e : wants ops s o = some b) : Region.wanted o (yielded ops a.tmps) = b := by
  unfold wants at e
  unfold Region.wanted
  cases hg : o.guard with
  | none => rw [hg] at e; injection e with e
  | some x =>
    obtain ⟨j, want⟩ := x
    rw [hg] at e
    simp only at e ⊢
    unfold yielded
    cases hd : (ops[j]?).bind (·.dst) with
    | none =>
      rw [hd] at e
      injection e with e
    | some d =>
      rw [hd] at e
      simp only at e
      split at e
      · rename_i hlt
        have ht := h.F.tm d
        have hlt' : d < a.tmps.size := by rw [← h.F.nt]; exact hlt
        have hgd : a.tmps.getD d undef = a.tmps[d] := by simp [Array.getD, hlt']
        rw [hgd] at ht
        have hget : a.tmps[d]? = some a.tmps[d] := Array.getElem?_eq_getElem hlt'
        simp only [Option.bind_some, hget]
        split at e
        · rename_i c heq
          injection e with e
          subst e
          rw [heq] at ht
          rw [RepA.bool_inv ht]
          cases c <;> cases want <;> rfl
        · rename_i heq
          injection e with e
          subst e
          rw [heq] at ht
          generalize a.tmps[d] = y at ht
          cases ht with
          | a ht => cases ht with | cell ht => cases ht
          | undef => rfl
        · cases e
      · cases e
end
end Go.Vm
set_option linter.unusedVariables false
namespace Go.Vm
open Go
theorem exitTo_len {id : Nat} : ∀ {k k' : List Item}, exitTo id k = some k' → k'.length < k.length
 | [], k', h => by simp [exitTo] at h
 | x :: k, k', h => by
  cases x with
  | inBlock id' =>
   simp only [exitTo] at h
   split at h
   ·injection h with h; subst h; simp
   ·have := exitTo_len h; simp; omega
  | _ => (simp only [exitTo] at h; have := exitTo_len h; simp; omega)
theorem wp_loop_unroll {P : Program} {c : Code} {Q : Exit → Act → World → Prop} {a : Act} {w : World} (hQ : ∀ e a w, Q e a w → e = .normal ∨ (∃ id, e = .exit id) ∨ e = .ret)
  (h : c.wp P (Exit.then (fun a w => (Code.loop c).wp P Q a w) Q) a w) : (Code.loop c).wp P Q a w := by
 intro b k cs
 obtain ⟨e, a1, w1, hq, harr⟩ := h b (.inLoop c :: k) cs
 cases e with
 | normal =>
  obtain ⟨e2, a2, w2, hq2, harr2⟩ := hq b k cs
  have hstep : step P (lone (b.at a1 (.code (.loop c) :: k)) cs w1) = .next (lone (b.at a1 (.code c :: .inLoop c :: k)) cs w1) := step_loop
  have hin : step P (lone (b.at a1 (.inLoop c :: k)) cs w1) = .next (lone (b.at a1 (.code c :: .inLoop c :: k)) cs w1) := step_inLoop
  have cut : ∀ m', Steps P (lone (b.at a1 (.code (.loop c) :: k)) cs w1) m' → m' ≠ lone (b.at a1 (.code (.loop c) :: k)) cs w1 → Steps P (lone (b.at a1 (.code c :: .inLoop c :: k)) cs w1) m' := by
   rintro m' ⟨n, hn⟩ hne
   cases n with
   | zero => simp only [runN] at hn; injection hn with hn; exact absurd hn.symm hne
   | succ n => simp only [runN, hstep] at hn; exact ⟨n, hn⟩
  have pre : ∀ m', Steps P (lone (b.at a1 (.code c :: .inLoop c :: k)) cs w1) m' → Steps P (lone (b.at a (.code (.loop c) :: k)) cs w) m' := by
   intro m' hm
   exact Steps.trans (Steps.one step_loop) (Steps.trans harr (Steps.head hin hm))
  refine ⟨e2, a2, w2, hq2, ?_⟩
  rcases hQ _ _ _ hq2 with rfl | ⟨id, rfl⟩ | rfl
  ·refine pre _ (cut _ harr2 (fun e => ?_))
   have := congrArg (fun m => (m.gs[0]?).map (·.frame.todo.length)) e
   simp [lone, Frame.at] at this
  ·intro k' hk'
   refine pre _ (cut _ (harr2 k' hk') (fun e => ?_))
   have := congrArg (fun m => (m.gs[0]?).map (·.frame.todo.length)) e
   simp [lone, Frame.at] at this
   have := exitTo_len hk'
   omega
  ·obtain ⟨todo, hs⟩ := harr2
   refine ⟨todo, pre _ (cut _ hs (fun e => ?_))⟩
   have := congrArg (fun m => (m.gs[0]?).map (fun g => match g.frame.mode with | .returning => true | _ => false)) e
   simp [lone, Frame.at] at this
 | exit id => exact ⟨_, a1, w1, hq, .of_steps (.one step_loop) (.pass (x := .inLoop c) rfl (fun _ _ => .inl (by simp)) harr)⟩
 | goto l => exact ⟨_, a1, w1, hq, .of_steps (.one step_loop) (.pass (x := .inLoop c) rfl (fun _ _ => .inl (by simp)) harr)⟩
 | ret => exact ⟨_, a1, w1, hq, .of_steps (.one step_loop) (.pass (x := .inLoop c) rfl (fun _ _ => .inl (by simp)) harr)⟩
 | panic ch => exact ⟨_, a1, w1, hq, .of_steps (.one step_loop) (.pass (x := .inLoop c) rfl (fun _ _ => .inl (by simp)) harr)⟩
 | outgrown => exact ⟨_, a1, w1, hq, .of_steps (.one step_loop) (.pass (x := .inLoop c) rfl (fun _ _ => .inl (by simp)) harr)⟩
def RepArgs (v : Vw) (args : List V) (ys : Array Value) : Prop := args.length = ys.size ∧ ∀ (i : Nat) (x : V) (y : Value), args[i]? = some x → ys[i]? = some y → RepA v x y
def noLc : Nat → Nat → Option Nat := fun _ _ => none
structure Post (v : Vw) (w : World) (g : G) (v' : Vw) (w' : World) (g' : G) : Prop where
 ex : ∃ gC, Sn v w g v' w' gC ∧ g'.objs = gC.objs ∧ g'.toks = gC.toks ∧ g'.wo ≤ gC.wo ∧ g'.wo ≤ g.wo ∧ g'.wt ≤ gC.wt ∧ g'.wt ≤ g.wt
theorem Sn.refl {v : Vw} {w : World} {g : G} (h : v.nobj = g.objs.length) (ht : v.toks = g.toks) : Sn v w g v w { g with wo := g.objs.length, wt := g.toks.length } where
 size := Nat.le_refl _
 os := rfl
 tape := Tp.refl _
 out := rfl
 ext := Ext.refl v
 rho i h1 h2 := by omega
 kap i h1 h2 := by omega
 kapo _ _ := .inl rfl
 kept _ _ := rfl
 sg _ _ h := h
 other _ _ _ _ := rfl
 wo := Nat.le_refl _
 wt := Nat.le_refl _
 objs _ _ := ⟨rfl, fun _ _ _ => rfl⟩
 toks _ _ := ⟨rfl, rfl, rfl⟩
theorem Sn.after {E : Env} {v0 : Vw} {w0 : World} {g0 : G} {v : Vw} {w : World} {g : G} {v' : Vw} {w' : World} {g' : G} (B : Base v0 w0 g0) (W : WR E v g w) (h : Sn v0 w0 g0 v w g) (k : Post v w g v' w' g') : Sn v0 w0 g0 v' w' g' := by
 obtain ⟨gC, K, e1, e2, e3, e4, e5, e6⟩ := k.ex
 have ho : ∀ i, i < g'.wo → i < v0.nobj := fun i hi => by rw [B.nobj]; exact Nat.lt_of_lt_of_le (Nat.lt_of_lt_of_le hi e4) h.wo
 have ht : ∀ i, i < g'.wt → i < v0.toks.length := fun i hi => by rw [B.toks]; exact Nat.lt_of_lt_of_le (Nat.lt_of_lt_of_le hi e6) h.wt
 refine ⟨Nat.le_trans h.size K.size, K.os.trans h.os, K.tape.trans h.tape, K.out.trans h.out, h.ext.trans K.ext, ?_, ?_, ?_, ?_, ?_, ?_, ?_, ?_, ?_, ?_⟩
 ·intro i hi hlt
  have old : ∀ i, v0.nobj ≤ i → i < v.nobj → w0.heap.size ≤ v.rho i ∨ ∃ j, g'.wo ≤ j ∧ j < v0.nobj ∧ v.rho i = v0.rho j := by
   intro i hi h2
   rcases h.rho i hi h2 with q | ⟨j, q1, q2, q3⟩
   ·exact .inl q
   ·exact .inr ⟨j, Nat.le_trans e4 q1, q2, q3⟩
  by_cases h2 : i < v.nobj
  ·rw [K.ext.rho i h2]; exact old i hi h2
  ·rcases K.rho i (by omega) hlt with q | ⟨j, q1, q2, q3⟩
   ·exact .inl (Nat.le_trans h.size q)
   ·rw [q3]
    by_cases h3 : j < v0.nobj
    ·exact .inr ⟨j, Nat.le_trans e3 q1, h3, h.ext.rho j h3⟩
    ·exact old j (by omega) q2
 ·intro i hi hlt
  by_cases h2 : i < v.toks.length
  ·rcases K.kapo i h2 with q | q
   ·rw [q]; exact h.kap i hi h2
   ·exact Nat.le_trans h.size q
  ·exact Nat.le_trans h.size (K.kap i (by omega) hlt)
 ·intro i hi
  rcases K.kapo i (Nat.lt_of_lt_of_le hi h.ext.tok) with q | q
  ·rw [q]; exact h.kapo i hi
  ·exact .inr (Nat.le_trans h.size q)
 ·intro i hi
  rw [K.kept i (by omega)]
  exact h.kept i (by omega)
 ·intro b hb hs
  exact K.sg b (Nat.lt_of_lt_of_le hb h.size) (h.sg b hb hs)
 ·intro b hb h1 h2
  refine (K.other b (Nat.lt_of_lt_of_le hb h.size) (fun i hi => ?_) (fun i hi => ?_)).trans (h.other b hb h1 h2)
  ·by_cases h3 : i < v0.nobj
   ·rw [h.ext.rho i h3]; exact h1 i h3
   ·rcases h.rho i (by omega) hi with q | ⟨j, q1, q2, q3⟩
    ·omega
    ·rw [q3]; exact h1 j q2
  ·by_cases h3 : i < v0.toks.length
   ·rcases h.kapo i h3 with q | q
    ·rw [q]; exact h2 i h3
    ·omega
   ·have := h.kap i (by omega) hi; omega
 ·exact Nat.le_trans e4 h.wo
 ·exact Nat.le_trans e6 h.wt
 ·intro i hi
  have h1 := K.objs i (by omega)
  have h2 := h.objs i (by omega)
  rw [e1]
  refine ⟨h1.1.trans h2.1, fun o q1 q2 => ?_⟩
  rw [← h.ext.rho i (ho i hi)]
  rw [h1.2 o (by rw [h2.1]; exact q1) q2, h.ext.rho i (ho i hi)]
  exact h2.2 o q1 q2
 ·intro i hi
  have h1 := K.toks i (by omega)
  have h2 := h.toks i (by omega)
  have h3 := h.kept i (by omega)
  rw [e2]
  rw [h3] at h1
  exact ⟨h1.1.trans h2.1, h1.2.1.trans h2.2.1, h1.2.2.trans h2.2.2⟩
theorem FR.after {E : Env} {v : Vw} {lc : Nat → Nat → Option Nat} {s : St} {a : Act} {w : World} {v' : Vw} {w' : World} {g' : G} (W : WR E v s.g w) (h : FR v lc s a w) (k : Post v w s.g v' w' g') : FR v' lc { s with g := g' } a w' := by
 obtain ⟨gC, K, _⟩ := k.ex
 refine ⟨h.nt, h.df, fun t => (h.tm t).ext K.ext (fun _ _ _ h => h), ?_, h.rd, h.lb⟩
 intro t g cs e
 obtain ⟨b, C, el, fr, h1, h2, h3, h4, h5, h6⟩ := h.rg t g cs e
 have hb := get_lt h2
 refine ⟨b, C, el, fr, h1, ?_, h3, h4.ext K.ext, K.sg b hb h5, fun id hid => ?_⟩
 ·rw [K.other b hb h6 (fun i hi e => ?_)]
  ·exact h2
  ·obtain ⟨_, _, _, cs2, _, _, _, q⟩ := W.tk i hi
   rw [e, h5] at q
   cases q
 ·by_cases h7 : id < v.nobj
  ·rw [K.ext.rho id h7]; exact h6 id h7
  ·rcases K.rho id (by omega) hid with q | ⟨j, q1, q2, q3⟩
   ·omega
   ·rw [q3]; exact h6 j q2
theorem enter_ok {E : Env} {v : Vw} {g : G} {w : World} {args : List V} {ys : Array Value} (W : WR E v g w) (h : RepArgs v args ys) (fn : Func) (f : FuncId) (hle : args.length ≤ fn.ntmps) :
  Rl E v w g v noLc (enter E fn f args g) { tmps := ys ++ Array.replicate (fn.ntmps - ys.size) undef, defers := [] } w := by
 refine ⟨⟨W.sg, W.nobj, W.toks, W.obj, W.inj, W.osz, W.osg, W.tk, W.tinj, W.glob⟩, ⟨?_, rfl, ?_, ?_, ?_, ?_⟩, Sn.refl W.nobj W.toks, fun t g b e => by cases e⟩
 ·have := h.1
  simp [enter]
  omega
 ·intro t
  simp only [enter]
  by_cases ht : t < args.length
  ·have e1 : args[t]? = some args[t] := List.getElem?_eq_getElem ht
   have ht2 : t < ys.size := by rw [← h.1]; exact ht
   have e2 : ys[t]? = some ys[t] := Array.getElem?_eq_getElem ht2
   have e3 : args.getD t .undef = args[t] := by simp [List.getD, e1]
   have e4 : (ys ++ Array.replicate (fn.ntmps - ys.size) undef).getD t undef = ys[t] := by
    rw [Array.getD_eq_getD_getElem?, Array.getElem?_append_left ht2, e2]
    rfl
   rw [e3, e4]
   exact .a (h.2 t _ _ e1 e2)
  ·have e3 : args.getD t .undef = .undef := by simp [List.getD, List.getElem?_eq_none (Nat.le_of_not_lt ht)]
   have e4 : (ys ++ Array.replicate (fn.ntmps - ys.size) undef).getD t undef = undef := by
    have ht2 : ys.size ≤ t := by rw [← h.1]; omega
    rw [Array.getD_eq_getD_getElem?, Array.getElem?_append_right ht2, Array.getElem?_replicate]
    split <;> rfl
   rw [e3, e4]
   exact .undef
 ·intro t g cs e; cases e
 ·intro t t' g g' cs cs' b e; cases e
 ·intro t g b e; cases e
end Go.Vm
set_option linter.unusedVariables false
namespace Go.Vm
open Go
inductive All2 {α β : Type} (R : α → β → Prop) : List α → List β → Prop where
 | nil : All2 R [] []
 | cons {x y l m} : R x y → All2 R l m → All2 R (x :: l) (y :: m)
theorem All2.of_get {α β : Type} {R : α → β → Prop} : ∀ {l : List α} {m : List β}, l.length = m.length → (∀ (i : Nat) (x : α) (y : β), l[i]? = some x → m[i]? = some y → R x y) → All2 R l m
 | [], [], _, _ => .nil
 | [], _ :: _, h, _ => absurd h (by simp)
 | _ :: _, [], h, _ => absurd h (by simp)
 | x :: l, y :: m, h, hr => .cons (hr 0 x y rfl rfl) (All2.of_get (by simpa using h) (fun i a b ha hb => hr (i + 1) a b (by simpa using ha) (by simpa using hb)))
theorem All2.length {α β : Type} {R : α → β → Prop} {l : List α} {m : List β} (h : All2 R l m) : l.length = m.length := by
 induction h with
 | nil => rfl
 | cons _ _ ih => simp [ih]
theorem All2.get {α β : Type} {R : α → β → Prop} {l : List α} {m : List β} (h : All2 R l m) {i : Nat} {y : β} (hy : m[i]? = some y) : ∃ x, l[i]? = some x ∧ R x y := by
 induction h generalizing i with
 | nil => simp at hy
 | cons hr _ ih =>
  cases i with
  | zero => simp at hy; subst hy; exact ⟨_, rfl, hr⟩
  | succ i => exact ih (by simpa using hy)
theorem All2.filter {α β : Type} {R : α → β → Prop} {p : α → Bool} {q : β → Bool} (hpq : ∀ x y, R x y → p x = q y) {l : List α} {m : List β} (h : All2 R l m) : All2 R (l.filter p) (m.filter q) := by
 induction h with
 | nil => exact .nil
 | @cons x y l m hr _ ih =>
  have := hpq x y hr
  cases hq : q y with
  | true => rw [List.filter_cons_of_pos (by rw [this, hq]), List.filter_cons_of_pos hq]; exact .cons hr ih
  | false => rw [List.filter_cons_of_neg (by rw [this, hq]; simp), List.filter_cons_of_neg (by rw [hq]; simp)]; exact ih
theorem All2.append {α β : Type} {R : α → β → Prop} {l l' : List α} {m m' : List β} (h : All2 R l m) (k : All2 R l' m') : All2 R (l ++ l') (m ++ m') := by
 induction h with
 | nil => exact k
 | cons hr _ ih => exact .cons hr ih
theorem All2.all {α β : Type} {R : α → β → Prop} {p : α → Bool} {q : β → Bool} (hpq : ∀ x y, R x y → p x = q y) {l : List α} {m : List β} (h : All2 R l m) : l.all p = m.all q := by
 induction h with
 | nil => rfl
 | cons hr _ ih => simp [hpq _ _ hr, ih]
theorem All2.isEmpty {α β : Type} {R : α → β → Prop} {l : List α} {m : List β} (h : All2 R l m) : l.isEmpty = m.isEmpty := by
 cases h <;> rfl
theorem All2.map2 {α β γ δ : Type} {R : α → β → Prop} {S : γ → δ → Prop} {f : α → γ} {g : β → δ} (hf : ∀ x y, R x y → S (f x) (g y)) {l : List α} {m : List β} (h : All2 R l m) : All2 S (l.map f) (m.map g) := by
 induction h with
 | nil => exact .nil
 | cons hr _ ih => exact .cons (hf _ _ hr) ih
section
variable {E : Env} {v0 : Vw} {w0 : World} {g0 : G} {v : Vw} {lc : Nat → Nat → Option Nat} {s : St} {a : Act} {w : World} {o : Oper}
def RE (v : Vw) (x : PV × V × Nat) (m : MapEntry) : Prop := RepP v.sg x.1 m.key ∧ RepA v x.2.1 m.val ∧ m.born = x.2.2
def ROE (v : Vw) : Option (PV × V × Nat) → Option MapEntry → Prop
 | none, none => True
 | some x, some m => RE v x m
 | _, _ => False
theorem RepO.iterInv {m : Option Nat} {since : Nat} {seen : List Nat} {stepped : Nat} {X : Option Obj} (h : RepO v (.iter m since seen stepped) X) : X = some (.mapIter (m.map v.rho) since seen.toArray stepped) ∧ ∀ i, m = some i → i < v.nobj := by
 cases h with | iter h => exact ⟨rfl, h⟩
theorem getObj_run {P : Program} {b : Nat} {O : Obj} (h : w.heap[b]? = some O) (hc : ∀ C e fr, O ≠ .cells C e fr) : (getObj b).run P w = .ok O w := by
 cases O with
 | cells C e fr => exact absurd rfl (hc C e fr)
 | _ => simp only [getObj, Sem.run, h]
theorem setObj_run {P : Program} {b : Nat} {O O' : Obj} (h : w.heap[b]? = some O) (hc : ∀ C e fr, O ≠ .cells C e fr) : ∃ w', (setObj b O').run P w = .ok () w' ∧ Wrote w w' b O' := by
 refine ⟨{ w with heap := w.heap.setIfInBounds b O' }, ?_, ⟨?_, ?_, by simp, rfl, ⟨rfl, Nat.le_refl _⟩, rfl⟩⟩
 ·cases O with
  | cells C e fr => exact absurd rfl (hc C e fr)
  | _ => simp only [setObj, Sem.run, h]
 ·have := get_lt h
  simp [this]
 ·intro c hc
  have : b ≠ c := fun e => hc e.symm
  simp [this]
theorem RE.ext {v v' : Vw} (hv : Ext v v') {x : PV × V × Nat} {m : MapEntry} (h : RE v x m) : RE v' x m := ⟨h.1.ext hv.sg, h.2.1.ext hv, h.2.2⟩
theorem next_ok (B : Base v0 w0 g0) (h : Rl E v0 w0 g0 v lc s a w) {it : V} {y : Value} {cs : List (Option (PV × V × Nat))} (e : nextOf s.g it = some cs) (hy : RepV v lc it y) (ty : TypeId) :
  ∃ c, c ∈ cs ∧ ∀ x g', afterNext s.g it c = some (x, g') → ∃ r w', (Instr.next y false ty).run E.P w = .ok r w' ∧ Rl E v0 w0 g0 v lc { s with g := g' } a w' ∧ RepV v lc x r := by
 unfold nextOf at e
 split at e
 ·rename_i id
  have hid : y = .pointer (some ⟨v.rho id, 0, none⟩) ∧ id < v.nobj := by
   cases hy with | a hy => cases hy with | cell hy => cases hy with | ptr hid => exact ⟨rfl, hid⟩
  obtain ⟨rfl, hid⟩ := hid
  split at e
  ·rename_i since seen stepped hob
   injection e with e
   subst e
   obtain ⟨hX, _⟩ := RepO.iterInv (h.W.obj id _ hob)
   refine ⟨none, by simp, fun x g' ea => ?_⟩
   simp only [afterNext] at ea
   injection ea with ea
   simp only [Prod.mk.injEq] at ea
   obtain ⟨rfl, rfl⟩ := ea
   refine ⟨.tuple #[.bool false], w, ?_, h, ?_⟩
   ·simp only [Instr.next, Sem.run_bind, getObj_run hX (fun _ _ _ => by simp), Result.andThen_ok, Option.map_none, Sem.run_pure]
   ·exact RepV.tup (ys := [.bool false]) rfl (fun i x y hx hy => by
     match i, hx, hy with
     | 0, hx, hy => simp at hx hy; subst hx hy; exact .cell (.p .bool)
     | i + 1, hx, hy => simp at hx)
  ·rename_i m since seen last hob
   split at e
   ·rename_i es clock hmob
    split at e
    ·cases e
    ·rename_i hnot
     injection e with e
     obtain ⟨hX, hm⟩ := RepO.iterInv (h.W.obj id _ hob)
     have hmn := hm m rfl
     obtain ⟨arr, g1, g2, g3⟩ := RepO.mapInv (h.W.obj m _ hmob)
     have hall : All2 (RE v) es arr.toList := All2.of_get (by simpa using g2) (fun i x mm hx hmm => g3 i x mm hx (by simpa using hmm))
     have hleft : All2 (RE v) (es.filter fun e => !seen.contains e.2.2) (arr.toList.filter fun e => !seen.toArray.contains e.born) :=
      hall.filter (fun x m hr => by rw [hr.2.2]; simp)
     have hold : All2 (RE v) ((es.filter fun e => !seen.contains e.2.2).filter fun e => e.2.2 < since) ((arr.toList.filter fun e => !seen.toArray.contains e.born).filter fun e => e.born < since) :=
      hleft.filter (fun x m hr => by rw [hr.2.2])
     have hnew : All2 (RE v) ((es.filter fun e => !seen.contains e.2.2).filter fun e => since ≤ e.2.2) ((arr.toList.filter fun e => !seen.toArray.contains e.born).filter fun e => e.born ≥ since) :=
      hleft.filter (fun x m hr => by rw [hr.2.2])
     have hcand : All2 (ROE v) cs (((if ((arr.toList.filter fun e => !seen.toArray.contains e.born).filter fun e => e.born < since).isEmpty then [none] else []) ++
       (((arr.toList.filter fun e => !seen.toArray.contains e.born).filter fun e => e.born < since) ++ ((arr.toList.filter fun e => !seen.toArray.contains e.born).filter fun e => e.born ≥ since)).map some)) := by
      rw [← e]
      refine All2.append ?_ ((hold.append hnew).map2 (S := ROE v) (f := some) (g := some) (fun x m hr => hr))
      rw [hold.isEmpty]
      split
      ·exact .cons trivial .nil
      ·exact .nil
     generalize hcd : ((if ((arr.toList.filter fun e => !seen.toArray.contains e.born).filter fun e => e.born < since).isEmpty then [none] else []) ++
       (((arr.toList.filter fun e => !seen.toArray.contains e.born).filter fun e => e.born < since) ++ ((arr.toList.filter fun e => !seen.toArray.contains e.born).filter fun e => e.born ≥ since)).map some) = cands at hcand
     have hpos : 0 < cands.length := by
      rw [← hcd]
      split
      ·simp
      ·rename_i hne
       cases hq : ((arr.toList.filter fun e => !seen.toArray.contains e.born).filter fun e => e.born < since) with
       | nil => rw [hq] at hne; simp at hne
       | cons _ _ => simp
     have hk : ∃ k w1, (choose (.mapNext cands.length)).run E.P w = .ok k w1 ∧ k < cands.length ∧ HLe w w1 ∧ w1.heap = w.heap := by
      rw [run_choose]
      by_cases hf : (Question.mapNext cands.length).forced = true
      ·rw [if_pos hf]; exact ⟨0, w, rfl, hpos, HLe.refl w, rfl⟩
      ·rw [if_neg hf]; exact ⟨_, _, rfl, Nat.mod_lt _ hpos, HLe.drawn w _, rfl⟩
     obtain ⟨k, w1, k1, k2, k3, k4⟩ := hk
     have hR1 := h.hle B k3
     obtain ⟨mm, hmm⟩ : ∃ mm, cands[k]? = some mm := ⟨_, List.getElem?_eq_getElem k2⟩
     obtain ⟨c, hc1, hc2⟩ := hcand.get hmm
     refine ⟨c, List.mem_of_getElem? hc1, fun x g' ea => ?_⟩
     have hrunTo : ∀ (R : Result Value), (match (mm : Option MapEntry) with
        | some e => do
         setObj (v.rho id) (.mapIter (some (v.rho m)) since (seen.toArray.push e.born) clock)
         Pure.pure (.tuple #[.bool true, e.key, e.val])
        | none => Pure.pure (.tuple #[.bool false]) : Sem Value).run E.P w1 = R → (Instr.next (.pointer (some ⟨v.rho id, 0, none⟩)) false ty).run E.P w = R := by
      intro R hR
      unfold Instr.next
      simp only [Sem.run_bind, getObj_run hX (fun _ _ _ => by simp), Result.andThen_ok, Option.map_some, getObj_ok g1]
      have hb : (!seen.toArray.isEmpty && !arr.isEmpty && arr.all fun e => decide (e.born ≥ last)) = false := by
       have e1 : seen.toArray.isEmpty = seen.isEmpty := by cases seen <;> rfl
       have e2 : arr.isEmpty = es.isEmpty := by rw [hall.isEmpty]; cases arr with | mk l => cases l <;> rfl
       have e3 : (arr.all fun e => decide (e.born ≥ last)) = es.all fun e => decide (last ≤ e.2.2) := by
        rw [hall.all (q := fun e => decide (e.born ≥ last)) (fun x m hr => by rw [hr.2.2])]
        rw [Array.all_toList]
       rw [e1, e2, e3]
       simpa using hnot
      rw [hb]
      simp only [Bool.false_eq_true, if_false]
      have hcd' : ((if (((arr.filter fun e => !seen.toArray.contains e.born).filter fun e => decide (e.born < since)).isEmpty) = true then #[none] else #[]) ++
        (((arr.filter fun e => !seen.toArray.contains e.born).filter fun e => decide (e.born < since)) ++ ((arr.filter fun e => !seen.toArray.contains e.born).filter fun e => decide (e.born ≥ since))).map some : Array (Option MapEntry)) = cands.toArray := by
       rw [← hcd]
       apply Array.ext'
       simp only [Array.toList_append, Array.toList_map, Array.toList_filter]
       congr 1
       have : ((arr.filter fun e => !seen.toArray.contains e.born).filter fun e => decide (e.born < since)).isEmpty = ((arr.toList.filter fun e => !seen.toArray.contains e.born).filter fun e => decide (e.born < since)).isEmpty := by
        rw [← Array.toList_filter, ← Array.toList_filter, Array.isEmpty_toList]
       rw [this]
       split <;> rfl
      rw [hcd']
      simp only [List.size_toArray, Sem.run_bind, k1, Result.andThen_ok, List.getElem?_toArray, hmm]
      cases mm with
      | none => exact hR
      | some e0 => exact hR
     match c, mm, hc2, hmm, hrunTo with
     | none, none, hc2, hmm, hrunTo =>
      simp only [afterNext] at ea
      injection ea with ea
      simp only [Prod.mk.injEq] at ea
      obtain ⟨rfl, rfl⟩ := ea
      refine ⟨.tuple #[.bool false], w1, hrunTo _ rfl, hR1, ?_⟩
      exact RepV.tup (ys := [.bool false]) rfl (fun i x y hx hy => by
       match i, hx, hy with
       | 0, hx, hy => simp at hx hy; subst hx hy; exact .cell (.p .bool)
       | i + 1, hx, hy => simp at hx)
     | some (kk, vv, bb), some e0, hc2, hmm, hrunTo =>
      simp only [afterNext, hob, hmob] at ea
      injection ea with ea
      simp only [Prod.mk.injEq] at ea
      obtain ⟨rfl, rfl⟩ := ea
      obtain ⟨w', s1, s2⟩ := setObj_run (P := E.P) (w := w1) (O' := .mapIter (some (v.rho m)) since (seen.toArray.push e0.born) clock) (by rw [k4]; exact hX) (fun _ _ _ => by simp)
      have hRO : RepO v (.iter (some m) since (seen ++ [bb]) clock) (some (.mapIter (some (v.rho m)) since (seen.toArray.push e0.born) clock)) := by
       have := RepO.iter (v := v) (m := some m) (since := since) (seen := seen ++ [bb]) (stepped := clock) (fun i hi => by injection hi with hi; subst hi; exact hmn)
       have e4 : e0.born = bb := hc2.2.2
       rw [e4]
       simpa using this
      refine ⟨.tuple #[.bool true, e0.key, e0.val], w', hrunTo _ (by simp only [Sem.run_bind, s1, Result.andThen_ok, Sem.run_pure]), hR1.storeO B (List.getElem?_eq_some_iff.1 hob).1 ⟨_, hob, rfl⟩ s2 (fun C e fr h => by cases h) hRO, ?_⟩
      refine RepV.tup (ys := [.bool true, e0.key, e0.val]) rfl (fun i x y hx hy => ?_)
      match i, hx, hy with
      | 0, hx, hy => simp at hx hy; subst hx hy; exact .cell (.p .bool)
      | 1, hx, hy => simp at hx hy; subst hx hy; exact .cell (.p hc2.1)
      | 2, hx, hy => simp at hx hy; subst hx hy; exact hc2.2.1
      | i + 3, hx, hy => simp at hx
   ·cases e
  ·cases e
 ·cases e
end
end Go.Vm
set_option linter.unusedVariables false
namespace Go.Vm
open Go
section
variable {E : Env} {v0 : Vw} {w0 : World} {g0 : G} {v : Vw} {lc : Nat → Nat → Option Nat} {s : St} {a : Act} {w : World} {o : Oper}
theorem resOf_ok (h : Rl E v0 w0 g0 v lc s a w) : ∀ {l : List ResultVar} {vs : List V}, resOf E s l = some vs →
  ∃ ys : List Value, (l.mapM (fun (r : ResultVar) => match r with
   | .tmp t => (Pure.pure (a.tmps.getD t undef) : Sem Value)
   | .cell b t => do loadVar t (← asAddr (a.tmps.getD b undef)))).run E.P w = .ok ys w ∧ vs.length = ys.length ∧ ∀ (i : Nat) (x : V) (y : Value), vs[i]? = some x → ys[i]? = some y → RepA v x y
 | [], vs, e => by injection e with e; subst e; exact ⟨[], rfl, rfl, fun i x y hx => by simp at hx⟩
 | r :: l, vs, e => by
  have fin : ∀ (x : V) (xs : List V) (y : Value), resOf E s l = some xs → vs = x :: xs → RepA v x y →
    ((match r with | .tmp t => (Pure.pure (a.tmps.getD t undef) : Sem Value) | .cell b t => do loadVar t (← asAddr (a.tmps.getD b undef))).run E.P w = .ok y w) →
    ∃ ys : List Value, ((r :: l).mapM (fun (r : ResultVar) => match r with
     | .tmp t => (Pure.pure (a.tmps.getD t undef) : Sem Value)
     | .cell b t => do loadVar t (← asAddr (a.tmps.getD b undef)))).run E.P w = .ok ys w ∧ vs.length = ys.length ∧ ∀ (i : Nat) (x : V) (y : Value), vs[i]? = some x → ys[i]? = some y → RepA v x y := by
   intro x xs y hxs hvs hr hrun
   obtain ⟨ys, h1, h2, h3⟩ := resOf_ok h hxs
   refine ⟨y :: ys, ?_, by simp [hvs, h2], fun i p q hp hq => ?_⟩
   ·rw [List.mapM_cons]
    simp only [Sem.run_bind]
    rw [hrun]
    simp only [Result.andThen_ok]
    rw [h1]
    rfl
   ·subst hvs
    cases i with
    | zero => simp at hp hq; subst hp hq; exact hr
    | succ i => exact h3 i p q (by simpa using hp) (by simpa using hq)
  cases r with
  | tmp t =>
   unfold resOf at e
   split at e
   ·rename_i xs hxs
    split at e
    ·rename_i h1
     injection e with e
     exact fin _ xs _ hxs e.symm ((h.F.tm t).toA h1) rfl
    ·cases e
   ·cases e
  | cell b t =>
   unfold resOf at e
   split at e
   ·rename_i x xs hx hxs
    injection e with e
    have hA := h.F.tm b
    obtain ⟨z, h1, h2⟩ := loadV_ok h hx hA
    refine fin x xs z hxs e.symm h2 ?_
    have hptr : ∃ ad, a.tmps.getD b undef = .pointer (some ad) := by
     generalize a.tmps.getD b undef = y at h1
     unfold Instr.loadAt at h1
     cases y with
     | pointer ad =>
      cases ad with
      | some ad => exact ⟨ad, rfl⟩
      | none => simp [Instr.sureAddr] at h1
     | _ => simp [Instr.sureAddr] at h1
    obtain ⟨ad, hp⟩ := hptr
    rw [hp] at h1
    show (do loadVar t (← asAddr (a.tmps.getD b undef)) : Sem Value).run E.P w = _
    rw [hp]
    simpa [Instr.loadAt, Instr.sureAddr, asAddr] using h1
   ·cases e
theorem pack_rep {vs : List V} {ys : List Value} (hl : vs.length = ys.length) (h : ∀ (i : Nat) (x : V) (y : Value), vs[i]? = some x → ys[i]? = some y → RepA v x y) :
  RepV v noLc (pack vs) (if h : ys.toArray.size = 1 then ys.toArray[0]'(by omega) else .tuple ys.toArray) := by
 match vs, ys, hl with
 | [x], [y], _ => exact .a (h 0 x y rfl rfl)
 | [], [], _ => exact RepV.tup rfl (fun i x y hx => by simp at hx)
 | x :: x' :: xs, y :: y' :: ys, hl =>
  have hne : ¬ ((y :: y' :: ys).toArray.size = 1) := by simp
  rw [dif_neg hne]
  exact RepV.tup hl h
structure Frz (g : G) (v v2 : Vw) : Prop where
 sg : ∀ b cs, v.sg b = some cs → v2.sg b = some cs
 obj : ∀ id cs, g.objs[id]? = some (.cells cs) → g.wo ≤ id → ∃ (C : Array Value) (ds : List V), v2.sg (v.rho id) = some C ∧ RepL v (cs ++ ds) C.toList
theorem mapO_get {f : V → Option PV} : ∀ {l : List V} {r : List PV}, mapO f l = some r → r.length = l.length ∧ ∀ (j : Nat) (x : PV), r[j]? = some x → ∃ a, l[j]? = some a ∧ f a = some x := by
 intro l
 induction l with
 | nil => intro r h; simp [mapO] at h; subst h; exact ⟨rfl, fun j x h => by simp at h⟩
 | cons a l ih =>
  intro r h
  unfold mapO at h
  split at h
  ·rename_i x xs h1 h2
   cases h
   obtain ⟨h3, h4⟩ := ih h2
   refine ⟨by simp [h3], fun j y hj => ?_⟩
   cases j with
   | zero => simp at hj; subst hj; exact ⟨a, rfl, h1⟩
   | succ j => exact h4 j y (by simpa using hj)
  ·cases h
theorem mapR_get {f : V → Option PV} : ∀ {l : List (List V)} {r : List (List PV)}, mapR f l = some r → r.length = l.length ∧ ∀ (i : Nat) (q : List PV), r[i]? = some q → ∃ a, l[i]? = some a ∧ mapO f a = some q := by
 intro l
 induction l with
 | nil => intro r h; simp [mapR] at h; subst h; exact ⟨rfl, fun j x h => by simp at h⟩
 | cons a l ih =>
  intro r h
  unfold mapR at h
  split at h
  ·rename_i x xs h1 h2
   cases h
   obtain ⟨h3, h4⟩ := ih h2
   refine ⟨by simp [h3], fun j y hj => ?_⟩
   cases j with
   | zero => simp at hj; subst hj; exact ⟨a, rfl, h1⟩
   | succ j => exact h4 j y (by simpa using hj)
  ·cases h
theorem sealD_ok {g : G} {v2 : Vw} (F : Frz g v v2) : ∀ (d : Nat) {x : V} {z : PV} {y : Value}, sealD g d x = some z → RepC v x y → RepP v2.sg z y := by
 have up : ∀ {z y}, RepP v.sg z y → RepP v2.sg z y := fun h => h.ext fun b cs e => ⟨#[], by rw [F.sg b cs e]; simp⟩
 intro d
 induction d with
 | zero => intro x z y e; simp [sealD] at e
 | succ d ih =>
  intro x z y e h
  cases x with
  | p x =>
   simp only [sealD] at e
   cases e
   cases h; exact up (by assumption)
  | sl rows k =>
   simp only [sealD] at e
   obtain ⟨xs, hp, rfl⟩ := Option.map_eq_some_iff.1 e
   obtain ⟨hl, hg⟩ := mapR_get hp
   cases h with
   | @sl _ a cap n _ f cs h1 h2 h3 h4 h5 h6 h7 h8 =>
    have cell : ∀ (i j : Nat) (q : List PV) (p : PV), xs[i]? = some q → q[j]? = some p → ∃ r a, rows[i]? = some r ∧ r[j]? = some a ∧ sealD g d a = some p := by
     intro i j q p hi hj
     obtain ⟨r, e1, e2⟩ := hg i q hi
     obtain ⟨a, e3, e4⟩ := (mapO_get e2).2 j p hj
     exact ⟨r, a, e1, e3, e4⟩
    rw [← hl]
    refine RepP.sl (rows := xs) (n := n) f cs (fun _ => h1) (by omega) (fun q hq => ?_) (fun hne => F.sg _ _ (h4 (fun e0 => hne ?_))) (fun i j q p hi hj => ?_) (fun i j q p hi hj => ?_)
    ·obtain ⟨i, hi⟩ := List.mem_iff_getElem?.1 hq
     obtain ⟨r, e1, e2⟩ := hg i q hi
     rw [(mapO_get e2).1]
     exact h3 r (List.mem_of_getElem? e1)
    ·rw [e0] at hl; exact List.eq_nil_of_length_eq_zero hl
    ·obtain ⟨r, a, e1, e2, _⟩ := cell i j q p hi hj
     exact h5 i j r a e1 e2
    ·obtain ⟨r, a, e1, e2, e3⟩ := cell i j q p hi hj
     exact ih e3 (h6 i j r a e1 e2)
  | arr id off len cap n =>
   simp only [sealD] at e
   split at e
   ·rename_i cs hob
    split at e
    ·rename_i hwo
     split at e
     ·rename_i ds hds
      obtain ⟨xs, hp, rfl⟩ := Option.map_eq_some_iff.1 e
      obtain ⟨C, es, q1, q2⟩ := F.obj id cs hob hwo
      obtain ⟨hlx, hg⟩ := mapR_get hp
      rw [chunks_length] at hlx
      cases h with
      | @arr _ _ _ _ _ c ad g1 g2 g3 g4 g5 g6 =>
       have hdl : ds.length = len * n ∧ off + len * n ≤ cs.length ∧ ds = (cs.drop off).take (len * n) := by
        unfold take? at hds
        split at hds
        ·rename_i hle
         injection hds with hds
         subst hds
         exact ⟨by simp; omega, hle, rfl⟩
        ·cases hds
       have key : ∀ i j r x, xs[i]? = some r → r[j]? = some x → ∃ y, C[off + (i * n + j)]? = some y ∧ RepP v2.sg x y ∧ j < n ∧ i < len := by
        intro i j r x hr hj
        obtain ⟨q, e1, e2⟩ := hg i r hr
        obtain ⟨a, e3, e4⟩ := (mapO_get e2).2 j x hj
        rw [chunks_get] at e1
        split at e1
        ·rename_i hil
         injection e1 with e1
         rw [← e1, List.getElem?_take] at e3
         split at e3
         ·rename_i hjn
          rw [List.getElem?_drop, hdl.2.2, List.getElem?_take] at e3
          split at e3
          ·rename_i hlt
           rw [List.getElem?_drop] at e3
           have e5 : (cs ++ es)[off + (i * n + j)]? = some a := by
            rw [List.getElem?_append_left (by omega)]; exact e3
           obtain ⟨y, y1, y2⟩ := q2.getElem e5
           rw [Array.getElem?_toList] at y1
           exact ⟨y, y1, ih e4 y2, hjn, hil⟩
          ·cases e3
         ·cases e3
        ·cases e1
       have hrow : ∀ r, r ∈ xs → r.length = n := by
        intro r hr
        obtain ⟨i, hi⟩ := List.mem_iff_getElem?.1 hr
        obtain ⟨q, e1, e2⟩ := hg i r hi
        rw [(mapO_get e2).1]
        rw [chunks_get] at e1
        split at e1
        ·rename_i hil
         injection e1 with e1
         rw [← e1]
         have h2 : (i + 1) * n ≤ len * n := Nat.mul_le_mul_right _ hil
         rw [Nat.add_mul] at h2
         simp
         omega
        ·cases e1
       have := RepP.sl (sg := v2.sg) (rows := xs) (a := ad) (cap := c) (n := n) (fun i j => (C[off + (i * n + j)]?).getD undef) C (fun _ => g1) (by omega) hrow (fun _ => by rw [g3]; exact q1)
        (fun i j r x hr hj => by
         obtain ⟨y, y1, _, y3, y4⟩ := key i j r x hr hj
         rw [(g4 (by omega)).1, y1]; rfl)
        (fun i j r x hr hj => by obtain ⟨y, y1, y2, _⟩ := key i j r x hr hj; rw [y1]; exact y2)
       rw [hlx] at this
       exact this
     ·cases e
    ·cases e
   ·cases e
  | _ => simp [sealD] at e
theorem sealCell_ok {g : G} {v2 : Vw} (F : Frz g v v2) {x : V} {z : PV} {y : Value} (e : sealCell g x = some z) (h : RepC v x y) : RepP v2.sg z y := by
 unfold sealCell at e
 split at e
 ·exact sealD_ok F 1 (x := .p _) (by simpa [sealD] using e) h
 ·exact sealD_ok F 4 e h
theorem sealCells_ok {g : G} : ∀ {cs zs : List V} {ys : List Value}, sealCells g cs = some zs → RepL v cs ys → ∀ v' : Vw, Frz g v v' → RepL v' zs ys
 | [], zs, ys, e, h, v', hv => by
  injection e with e; subst e
  have : ys = [] := List.eq_nil_of_length_eq_zero h.1.symm
  subst this
  exact RepL.nil
 | c :: cs, zs, [], e, h, v', hv => absurd h.1 (by simp)
 | c :: cs, zs, y :: ys, e, h, v', hv => by
  unfold sealCells at e
  split at e
  ·rename_i z zs' h1 h2
   injection e with e
   subst e
   exact RepL.cons (.p (sealCell_ok hv h1 h.head)) (sealCells_ok h2 h.tail v' hv)
  ·cases e
theorem sealV_ok {g : G} {x z : V} {y : Value} (e : sealV g x = some z) (h : RepA v x y) (v' : Vw) (hv : Frz g v v') : RepA v' z y := by
 unfold sealV at e
 split at e
 ·rename_i cs
  cases hc : sealCells g cs with
  | none => rw [hc] at e; cases e
  | some zs =>
   rw [hc] at e
   injection e with e
   subst e
   cases h with
   | cell h => cases h
   | agg h => exact .agg (sealCells_ok hc h v' hv)
 ·rename_i hne
  cases hc : sealCell g x with
  | none => rw [hc] at e; cases e
  | some zz =>
   rw [hc] at e
   injection e with e
   subst e
   cases h with
   | cell h => exact .cell (.p (sealCell_ok hv hc h))
   | agg h => exact absurd rfl (hne _)
theorem sealL_ok {g : G} : ∀ {xs zs : List V} {ys : List Value}, sealL g xs = some zs → xs.length = ys.length → (∀ (i : Nat) (x : V) (y : Value), xs[i]? = some x → ys[i]? = some y → RepA v x y) → ∀ v' : Vw, Frz g v v' →
  zs.length = ys.length ∧ ∀ (i : Nat) (x : V) (y : Value), zs[i]? = some x → ys[i]? = some y → RepA v' x y
 | [], zs, ys, e, hl, h, v', hv => by
  injection e with e; subst e
  exact ⟨hl, fun i x y hx => by simp at hx⟩
 | x :: xs, zs, [], e, hl, h, v', hv => absurd hl (by simp)
 | x :: xs, zs, y :: ys, e, hl, h, v', hv => by
  unfold sealL at e
  split at e
  ·rename_i z zs' h1 h2
   injection e with e
   subst e
   obtain ⟨k1, k2⟩ := sealL_ok h2 (by simpa using hl) (fun i x y hx hy => h (i + 1) x y (by simpa using hx) (by simpa using hy)) v' hv
   refine ⟨by simp [k1], fun i p q hp hq => ?_⟩
   cases i with
   | zero => simp at hp hq; subst hp hq; exact sealV_ok h1 (h 0 x y rfl rfl) v' hv
   | succ i => exact k2 i p q (by simpa using hp) (by simpa using hq)
  ·cases e
end
inductive XE : X → Exit → Prop where
 | normal : XE .normal .normal
 | exit {id} : XE (.exit id) (.exit id)
 | ret : XE .ret .ret
def CodeQ (E : Env) (v0 : Vw) (w0 : World) (g0 : G) (Q : X → St → Prop) (e : Exit) (a' : Act) (w' : World) : Prop :=
 ∃ x s' v' lc', XE x e ∧ Q x s' ∧ Rl E v0 w0 g0 v' lc' s' a' w'
def OpsQ (E : Env) (v0 : Vw) (w0 : World) (g0 : G) (Q : St → Prop) (e : Exit) (a' : Act) (w' : World) : Prop :=
 ∃ s' v' lc', e = .normal ∧ Q s' ∧ Rl E v0 w0 g0 v' lc' s' a' w'
def CallQ (E : Env) (v : Vw) (w : World) (g : G) (Q : V → G → Prop) (e : Ending) (w' : World) : Prop :=
 ∃ r y v' g', e = .returned y ∧ Q r g' ∧ WR E v' g' w' ∧ RepV v' noLc r y ∧ Ext v v' ∧ Post v w g v' w' g'
def Sound (E : Env) : J → Prop
 | .code c s Q => ∀ v0 w0 g0 v lc a w, Base v0 w0 g0 → Rl E v0 w0 g0 v lc s a w → c.wp E.P (CodeQ E v0 w0 g0 Q) a w
 | .ops ops l s Q => ∀ v0 w0 g0 v lc a w, Base v0 w0 g0 → Rl E v0 w0 g0 v lc s a w → wpOps E.P ops (OpsQ E v0 w0 g0 Q) l a w
 | .call f args g Q => ∀ v w ys, WR E v g w → g.wo ≤ g.objs.length → g.wt ≤ g.toks.length → RepArgs v args ys → Calls E.P f ys w (CallQ E v w g Q)
def PrimOk (E : Env) : Prop := ∀ f args g Q, E.prim f args g Q → Sound E (.call f args g Q)
theorem wpOps_mono {P : Program} {ops : Array Oper} {Q Q' : Exit → Act → World → Prop} (hq : ∀ e a w, Q e a w → Q' e a w) : ∀ (l : List Nat) (a : Act) (w : World), wpOps P ops Q l a w → wpOps P ops Q' l a w
 | [], a, w, h => hq _ _ _ h
 | i :: l, a, w, h => by
  simp only [wpOps] at h ⊢
  cases ho : ops[i]? with
  | none => rw [ho] at h; exact wpOps_mono hq l a w h
  | some o =>
   rw [ho] at h
   simp only at h ⊢
   split
   ·rename_i hw
    rw [if_pos hw] at h
    rcases h with h | ⟨h1, a0, w0, h2⟩
    ·refine .inl ?_
     unfold Oper.wp at h ⊢
     unfold Oper.upon at h ⊢
     split at h
     ·exact wpOps_mono hq l _ _ h
     ·exact wpOps_mono hq l _ _ h
     ·exact wpOps_mono hq l _ _ h
     ·refine h.mono (fun e w' he => ?_)
      cases e with
      | returned v => exact wpOps_mono hq l _ _ he
      | panicked ch => exact hq _ _ _ he
      | outgrown => obtain ⟨a1, w1, h1⟩ := he; exact ⟨a1, w1, hq _ _ _ h1⟩
     ·exact h.mono (fun v w' he => wpOps_mono hq l _ _ he)
     ·exact hq _ _ _ h
     ·exact h
    ·exact .inr ⟨h1, a0, w0, hq _ _ _ h2⟩
   ·rename_i hw
    rw [if_neg hw] at h
    exact wpOps_mono hq l _ _ h
end Go.Vm
