/- Part 2 of the texts that the claim leans on: a judgement on the program over plain values, its soundness, and contracts of functions. -/
import Derived.Test.YtmknnanbmkmnjaaGreatDoorW1
set_option linter.unusedVariables false
set_option linter.unusedSimpArgs false
set_option linter.unusedVariables false
namespace Go.Vm
open Go
def Vw.addTok (v : Vw) (b n pos : Nat) (cs : Array Value) : Vw :=
 { v with sg := upd v.sg b (some cs), kap := upd v.kap v.toks.length b, kn := upd v.kn v.toks.length n, toks := v.toks ++ [pos] }
theorem Rl.pushT {E : Env} {v0 : Vw} {w0 : World} {g0 : G} {v : Vw} {lc : Nat → Nat → Option Nat} {s : St} {a : Act} {w : World} (B : Base v0 w0 g0) (h : Rl E v0 w0 g0 v lc s a w)
  (C cs : Array Value) (e : TypeId) (pos : Nat) (hp : ∀ (i : Nat) (y : Value), cs[i]? = some y → C[i]? = some y) :
  Ext v (v.addTok w.heap.size C.size pos cs) ∧ Rl E v0 w0 g0 (v.addTok w.heap.size C.size pos cs) lc { s with g := { s.g with toks := s.g.toks ++ [pos] } } a { w with heap := w.heap.push (.cells C e) } := by
 have k : HLe w { w with heap := w.heap.push (.cells C e) } := HLe.push w _
 have W := h.W
 have hn : v.sg w.heap.size = none := by
  cases hs : v.sg w.heap.size with
  | none => rfl
  | some ds => exact absurd (W.sg_lt hs) (Nat.lt_irrefl _)
 have hkap : ∀ i, i < v.toks.length → v.kap i ≠ w.heap.size := fun i hi => Nat.ne_of_lt (W.kap_lt hi)
 have hx : Ext v (v.addTok w.heap.size C.size pos cs) := by
  refine ⟨fun c ds e => ?_, Nat.le_refl _, fun _ _ => rfl, fun _ _ => rfl, by simp [Vw.addTok], fun i p hi e => ?_⟩
  ·have : c ≠ w.heap.size := by rintro rfl; rw [hn] at e; cases e
   exact ⟨#[], by simp [Vw.addTok, upd, this, e]⟩
  ·simp only [Vw.addTok] at e
   rw [List.getElem?_append_left hi] at e
   have : i ≠ v.toks.length := by omega
   exact ⟨p, e, Nat.le_refl _, fun _ => ⟨by simp [Vw.addTok, upd, this], by simp [Vw.addTok, upd, this], by simp [Vw.addTok, upd, hkap i hi]⟩⟩
 have h1 := h.hle B k
 refine ⟨hx, ⟨⟨?_, ?_, ?_, ?_, ?_, ?_, ?_, ?_, ?_, ?_⟩, ?_, ?_, h.H⟩⟩
 ·intro c ds e1
  by_cases hc : c = w.heap.size
  ·subst hc
   simp [Vw.addTok, upd] at e1
   subst e1
   exact ⟨C, e, (0, 0), by simp, hp⟩
  ·simp [Vw.addTok, upd, hc] at e1
   exact h1.W.sg c ds e1
 ·exact W.nobj
 ·simp [Vw.addTok, W.toks]
 ·exact fun id o e1 => (h1.W.obj id o e1).ext hx
 ·exact W.inj
 ·exact h1.W.osz
 ·intro i hi
  have : v.rho i ≠ w.heap.size := Nat.ne_of_lt (W.rho_lt hi)
  simp [Vw.addTok, upd, this]
  exact W.osg i hi
 ·intro i hi
  simp only [Vw.addTok, List.length_append, List.length_singleton] at hi
  by_cases h2 : i = v.toks.length
  ·subst h2
   exact ⟨C, e, (0, 0), cs, by simp [Vw.addTok, upd], fun j hj hh => by simp at hh, by simp [Vw.addTok, upd], by simp [Vw.addTok, upd]⟩
  ·obtain ⟨C', e', fr', cs', q1, q2, q3, q4⟩ := h1.W.tk i (by omega)
   have := hkap i (by omega)
   exact ⟨C', e', fr', cs', by simpa [Vw.addTok, upd, h2] using q1, q2, by simp [Vw.addTok, upd, h2, q3], by simp [Vw.addTok, upd, h2, this, q4]⟩
 ·intro i j hi hj e1
  simp only [Vw.addTok, List.length_append, List.length_singleton] at hi hj e1
  by_cases h2 : i = v.toks.length
  ·by_cases h3 : j = v.toks.length
   ·omega
   ·have := hkap j (by omega)
    simp [upd, h2, h3] at e1
    exact absurd e1.symm this
  ·by_cases h3 : j = v.toks.length
   ·have := hkap i (by omega)
    simp [upd, h2, h3] at e1
    exact absurd e1 this
   ·simp [upd, h2, h3] at e1
    exact W.tinj i j (by omega) (by omega) e1
 ·exact fun gid row e1 => (h1.W.glob gid row e1).ext hx
 ·have F := h1.F.ext hx (fun t g ds b e1 e2 e3 => by
   obtain ⟨b', C', el, fr', q1, q2, _⟩ := h.F.rg t g ds e1
   rw [e2] at q1
   injection q1 with q1
   subst q1
   have := get_lt q2
   have hne : b ≠ w.heap.size := by omega
   simp [Vw.addTok, upd, hne, e3]) (fun t g ds b e1 e2 id hid hle => absurd hid (by simp [Vw.addTok]; omega))
  exact ⟨F.nt, F.df, F.tm, F.rg, F.rd, F.lb⟩
 ·have S := h1.S
  refine ⟨S.size, S.os, S.tape, S.out, S.ext.trans hx, S.rho, ?_, ?_, ?_, ?_, S.other, S.wo, S.wt, S.objs, ?_⟩
  ·intro i hi hlt
   simp only [Vw.addTok, List.length_append, List.length_singleton] at hlt
   by_cases h2 : i = v.toks.length
   ·simp [Vw.addTok, upd, h2]; exact h.S.size
   ·simp [Vw.addTok, upd, h2]; exact S.kap i hi (by omega)
  ·intro i hi
   have : i ≠ v.toks.length := by have := S.ext.tok; omega
   simp [Vw.addTok, upd, this]
   exact S.kapo i hi
  ·intro i hi
   have hiw : i < s.g.wt := hi
   have : i ≠ v.toks.length := by
    have := S.ext.tok
    have := S.wt
    have e9 : v0.toks.length = g0.toks.length := by rw [B.toks]
    omega
   simp [Vw.addTok, upd, this]
   exact S.kept i hi
  ·intro b hb hb2
   have : b ≠ w.heap.size := by have := h.S.size; omega
   simp [Vw.addTok, upd, this]
   exact S.sg b hb hb2
  ·intro i hi
   have hlt0 : i < g0.toks.length := Nat.lt_of_lt_of_le hi S.wt
   have hk := B.kap i (by rw [B.toks]; exact hlt0)
   have hne : v0.kap i ≠ w.heap.size := by have := h.S.size; omega
   have h2 := S.toks i hi
   refine ⟨?_, h2.2.1, by simp [Vw.addTok, upd, hne]; exact h2.2.2⟩
   have : i < s.g.toks.length := by
    have := h2.1
    rw [List.getElem?_eq_getElem hlt0] at this
    exact (List.getElem?_eq_some_iff.1 this).1
   show (s.g.toks ++ [pos])[i]? = _
   rw [List.getElem?_append_left this]
   exact h2.1
def Vw.growTok (v : Vw) (k pos : Nat) (cs : Array Value) : Vw := { v with sg := upd v.sg (v.kap k) (some cs), toks := v.toks.set k pos }
theorem Rl.growT {E : Env} {v0 : Vw} {w0 : World} {g0 : G} {v : Vw} {lc : Nat → Nat → Option Nat} {s : St} {a : Act} {w w' : World} (B : Base v0 w0 g0) (h : Rl E v0 w0 g0 v lc s a w)
  {k p pos : Nat} (ht : s.g.toks[k]? = some p) (hpos : p < pos) {cs ds : Array Value} {C' : Array Value} {e : TypeId} {fr : Nat × Nat} (hcs : v.sg (v.kap k) = some cs)
  (hw : Wrote w w' (v.kap k) (.cells C' e fr)) (hf : Free fr C'.size) (hn : C'.size = v.kn k) (hp : ∀ (i : Nat) (y : Value), (cs ++ ds)[i]? = some y → C'[i]? = some y) :
  Ext v (v.growTok k pos (cs ++ ds)) ∧ Rl E v0 w0 g0 (v.growTok k pos (cs ++ ds)) lc { s with g := { s.g with toks := s.g.toks.set k pos, wt := min s.g.wt k } } a w' := by
 have W := h.W
 have hk : k < v.toks.length := by rw [W.toks]; exact (List.getElem?_eq_some_iff.1 ht).1
 have htv : v.toks[k]? = some p := by rw [W.toks]; exact ht
 have gsz : ∀ C1 e1 fr1, w.heap[v.kap k]? = some (.cells C1 e1 fr1) → C'.size = C1.size := by
  intro C1 e1 fr1 h1
  obtain ⟨C2, e2, fr2, cs2, q1, q2, q3, q4⟩ := W.tk k hk
  rw [q1] at h1; cases h1
  rw [hn, q3]
 have hinj : ∀ i, i < v.toks.length → i ≠ k → v.kap i ≠ v.kap k := fun i hi hne e => hne (W.tinj i k hi hk e)
 have hx : Ext v (v.growTok k pos (cs ++ ds)) := by
  refine ⟨fun c es e => ?_, Nat.le_refl _, fun _ _ => rfl, fun _ _ => rfl, by simp [Vw.growTok], fun i q hi e => ?_⟩
  ·by_cases hc : c = v.kap k
   ·subst hc
    rw [hcs] at e
    injection e with e
    subst e
    exact ⟨ds, by simp [Vw.growTok, upd]⟩
   ·exact ⟨#[], by simp [Vw.growTok, upd, hc, e]⟩
  ·simp only [Vw.growTok] at e
   by_cases hi2 : i = k
   ·subst hi2
    rw [List.getElem?_set_self hk] at e
    injection e with e
    subst e
    exact ⟨p, htv, by omega, fun h => by omega⟩
   ·rw [List.getElem?_set_ne (fun h => hi2 h.symm)] at e
    exact ⟨q, e, Nat.le_refl _, fun _ => ⟨rfl, rfl, by simp [Vw.growTok, upd, hinj i hi hi2]⟩⟩
 have hrho : ∀ i, i < v.nobj → v.rho i ≠ v.kap k := by
  intro i hi e
  have := W.osg i hi
  rw [e, hcs] at this
  cases this
 refine ⟨hx, ⟨⟨?_, W.nobj, ?_, ?_, W.inj, ?_, ?_, ?_, ?_, ?_⟩, ?_, ?_, h.H⟩⟩
 ·intro c es e1
  by_cases hc : c = v.kap k
  ·subst hc
   simp [Vw.growTok, upd] at e1
   subst e1
   exact ⟨C', e, fr, hw.at_, hp⟩
  ·simp [Vw.growTok, upd, hc] at e1
   rw [hw.other c hc]
   exact W.sg c es e1
 ·simp [Vw.growTok, W.toks]
 ·intro id o e1
  have hi : id < v.nobj := by rw [W.nobj]; exact (List.getElem?_eq_some_iff.1 e1).1
  have := (W.obj id o e1).ext hx
  show RepO _ o w'.heap[v.rho id]?
  rw [hw.other _ (hrho id hi)]
  exact this
 ·intro i hi C2 e2 fr2 hc
  exact W.osz i hi C2 e2 fr2 (by rw [← hw.other _ (hrho i hi)]; exact hc)
 ·intro i hi
  have := hrho i hi
  simp [Vw.growTok, upd, this]
  exact W.osg i hi
 ·intro i hi
  simp only [Vw.growTok, List.length_set] at hi
  by_cases h2 : i = k
  ·subst h2
   exact ⟨C', e, fr, cs ++ ds, hw.at_, hf, hn, by simp [Vw.growTok, upd]⟩
  ·obtain ⟨C2, e2, fr2, cs2, q1, q2, q3, q4⟩ := W.tk i hi
   have := hinj i hi h2
   exact ⟨C2, e2, fr2, cs2, by show w'.heap[v.kap i]? = _; rw [hw.other _ this]; exact q1, q2, q3, by simp [Vw.growTok, upd, this, q4]⟩
 ·intro i j hi hj e1
  simp only [Vw.growTok, List.length_set] at hi hj
  exact W.tinj i j hi hj e1
 ·exact fun gid row e1 => (W.glob gid row e1).to hx fun C1 el fr1 cs1 h1 h2 => by
   by_cases hb : gid = v.kap k
   ·subst hb
    exact ⟨C', e, fr, hw.at_, gsz C1 el fr1 h2⟩
   ·exact ⟨C1, el, fr1, by rw [hw.other _ hb]; exact h2, rfl⟩
 ·have hne : ∀ t g es b, s.rg t = some (g, es) → lc t g = some b → b ≠ v.kap k := by
   intro t g es b e1 e2
   obtain ⟨b', C2, el, fr2, q1, q2, q3, q4, q5, _⟩ := h.F.rg t g es e1
   rw [e2] at q1
   injection q1 with q1
   subst q1
   rintro rfl
   rw [hcs] at q5
   cases q5
  have F := h.F.ext hx (fun t g es b e1 e2 e3 => by
   have := hne t g es b e1 e2
   simp [Vw.growTok, upd, this, e3]) (fun t g es b e1 e2 id hid hle => absurd hid (by simp [Vw.growTok]; omega))
  refine ⟨F.nt, F.df, F.tm, ?_, F.rd, F.lb⟩
  intro t g es e1
  obtain ⟨b2, C2, el2, fr2, p1, p2, p3⟩ := F.rg t g es e1
  exact ⟨b2, C2, el2, fr2, p1, by rw [hw.other _ (hne t g es b2 e1 p1)]; exact p2, p3⟩
 ·have S := h.S
  have hk0 : ∀ i, i < v0.toks.length → i < s.g.wt → i ≠ k → v0.kap i ≠ v.kap k := by
   intro i hi hiw hne
   rw [← S.kept i hiw]
   exact hinj i (Nat.lt_of_lt_of_le hi S.ext.tok) hne
  refine ⟨by rw [hw.size]; exact S.size, hw.os.trans S.os, hw.tape.trans S.tape, hw.out.trans S.out, S.ext.trans hx, S.rho, ?_, S.kapo, fun i hi => S.kept i (Nat.lt_min.1 hi).1, ?_, ?_, S.wo, ?_, ?_, ?_⟩
  ·intro i hi hlt
   simp only [Vw.growTok, List.length_set] at hlt
   exact S.kap i hi hlt
  ·intro b hb hb2
   have : b ≠ v.kap k := by
    rintro rfl
    have := S.sg _ hb hb2
    rw [hcs] at this
    cases this
   simp [Vw.growTok, upd, this]
   exact S.sg b hb hb2
  ·intro c hc h1 h2
   have : c ≠ v.kap k := by
    rintro rfl
    by_cases hlt : k < v0.toks.length
    ·rcases S.kapo k hlt with hq | hq
     ·exact h2 k hlt hq.symm
     ·omega
    ·have := S.kap k (by omega) hk
     omega
   exact (hw.other c this).trans (S.other c hc h1 h2)
  ·show min s.g.wt k ≤ g0.toks.length
   have := S.wt
   omega
  ·intro i hi
   have hlt : i < v0.nobj := by rw [B.nobj]; exact Nat.lt_of_lt_of_le hi S.wo
   have h2 := S.objs i hi
   have : v0.rho i ≠ v.kap k := by
    rw [← S.ext.rho i hlt]
    exact hrho i (Nat.lt_of_lt_of_le hlt S.ext.obj)
   exact ⟨h2.1, fun o q1 q2 => (hw.other _ this).trans (h2.2 o q1 q2)⟩
  ·intro i hi
   have hi' : i < s.g.wt ∧ i < k := by simpa [Nat.lt_min] using hi
   have h2 := S.toks i hi'.1
   have hlt : i < v0.toks.length := by rw [B.toks]; exact Nat.lt_of_lt_of_le hi'.1 S.wt
   have hne := hk0 i hlt hi'.1 (by omega)
   refine ⟨?_, (hw.other _ hne).trans h2.2.1, by simp [Vw.growTok, upd, hne]; exact h2.2.2⟩
   show (s.g.toks.set k pos)[i]? = _
   rw [List.getElem?_set_ne (by omega)]
   exact h2.1
def Vw.moveTok (v : Vw) (k b n pos : Nat) (cs : Array Value) : Vw :=
 { v with sg := upd v.sg b (some cs), kap := upd v.kap k b, kn := upd v.kn k n, toks := v.toks.set k pos }
theorem Rl.moveT {E : Env} {v0 : Vw} {w0 : World} {g0 : G} {v : Vw} {lc : Nat → Nat → Option Nat} {s : St} {a : Act} {w : World} (B : Base v0 w0 g0) (h : Rl E v0 w0 g0 v lc s a w)
  {k p pos : Nat} (ht : s.g.toks[k]? = some p) (hpos : p < pos) (C cs : Array Value) (e : TypeId) (hp : ∀ (i : Nat) (y : Value), cs[i]? = some y → C[i]? = some y) :
  Ext v (v.moveTok k w.heap.size C.size pos cs) ∧ Rl E v0 w0 g0 (v.moveTok k w.heap.size C.size pos cs) lc { s with g := { s.g with toks := s.g.toks.set k pos, wt := min s.g.wt k } } a { w with heap := w.heap.push (.cells C e) } := by
 have kk : HLe w { w with heap := w.heap.push (.cells C e) } := HLe.push w _
 have W := h.W
 have hk : k < v.toks.length := by rw [W.toks]; exact (List.getElem?_eq_some_iff.1 ht).1
 have htv : v.toks[k]? = some p := by rw [W.toks]; exact ht
 have hn : v.sg w.heap.size = none := by
  cases hs : v.sg w.heap.size with
  | none => rfl
  | some ds => exact absurd (W.sg_lt hs) (Nat.lt_irrefl _)
 have hkap : ∀ i, i < v.toks.length → v.kap i ≠ w.heap.size := fun i hi => Nat.ne_of_lt (W.kap_lt hi)
 have hx : Ext v (v.moveTok k w.heap.size C.size pos cs) := by
  refine ⟨fun c ds e => ?_, Nat.le_refl _, fun _ _ => rfl, fun _ _ => rfl, by simp [Vw.moveTok], fun i q hi e => ?_⟩
  ·have : c ≠ w.heap.size := by rintro rfl; rw [hn] at e; cases e
   exact ⟨#[], by simp [Vw.moveTok, upd, this, e]⟩
  ·simp only [Vw.moveTok] at e
   by_cases hi2 : i = k
   ·subst hi2
    rw [List.getElem?_set_self hk] at e
    injection e with e
    subst e
    exact ⟨p, htv, by omega, fun h => by omega⟩
   ·rw [List.getElem?_set_ne (fun h => hi2 h.symm)] at e
    exact ⟨q, e, Nat.le_refl _, fun _ => ⟨by simp [Vw.moveTok, upd, hi2], by simp [Vw.moveTok, upd, hi2], by simp [Vw.moveTok, upd, hkap i hi]⟩⟩
 have h1 := h.hle B kk
 refine ⟨hx, ⟨⟨?_, ?_, ?_, ?_, ?_, ?_, ?_, ?_, ?_, ?_⟩, ?_, ?_, h.H⟩⟩
 ·intro c ds e1
  by_cases hc : c = w.heap.size
  ·subst hc
   simp [Vw.moveTok, upd] at e1
   subst e1
   exact ⟨C, e, (0, 0), by simp, hp⟩
  ·simp [Vw.moveTok, upd, hc] at e1
   exact h1.W.sg c ds e1
 ·exact W.nobj
 ·simp [Vw.moveTok, W.toks]
 ·exact fun id o e1 => (h1.W.obj id o e1).ext hx
 ·exact W.inj
 ·exact h1.W.osz
 ·intro i hi
  have : v.rho i ≠ w.heap.size := Nat.ne_of_lt (W.rho_lt hi)
  simp [Vw.moveTok, upd, this]
  exact W.osg i hi
 ·intro i hi
  simp only [Vw.moveTok, List.length_set] at hi
  by_cases h2 : i = k
  ·subst h2
   exact ⟨C, e, (0, 0), cs, by simp [Vw.moveTok, upd], fun j hj hh => by simp at hh, by simp [Vw.moveTok, upd], by simp [Vw.moveTok, upd]⟩
  ·obtain ⟨C', e', fr', cs', q1, q2, q3, q4⟩ := h1.W.tk i hi
   have := hkap i hi
   exact ⟨C', e', fr', cs', by simpa [Vw.moveTok, upd, h2] using q1, q2, by simp [Vw.moveTok, upd, h2, q3], by simp [Vw.moveTok, upd, h2, this, q4]⟩
 ·intro i j hi hj e1
  simp only [Vw.moveTok, List.length_set] at hi hj e1
  by_cases h2 : i = k
  ·by_cases h3 : j = k
   ·omega
   ·have := hkap j hj
    simp [upd, h2, h3] at e1
    exact absurd e1.symm this
  ·by_cases h3 : j = k
   ·have := hkap i hi
    simp [upd, h2, h3] at e1
    exact absurd e1 this
   ·simp [upd, h2, h3] at e1
    exact W.tinj i j hi hj e1
 ·exact fun gid row e1 => (h1.W.glob gid row e1).ext hx
 ·have F := h1.F.ext hx (fun t g ds b e1 e2 e3 => by
   obtain ⟨b', C', el, fr', q1, q2, _⟩ := h.F.rg t g ds e1
   rw [e2] at q1
   injection q1 with q1
   subst q1
   have := get_lt q2
   have hne : b ≠ w.heap.size := by omega
   simp [Vw.moveTok, upd, hne, e3]) (fun t g ds b e1 e2 id hid hle => absurd hid (by simp [Vw.moveTok]; omega))
  exact ⟨F.nt, F.df, F.tm, F.rg, F.rd, F.lb⟩
 ·have S := h1.S
  have hmin : ∀ i, i < min s.g.wt k → i < s.g.wt ∧ i < k := fun i hi => by simpa [Nat.lt_min] using hi
  refine ⟨S.size, S.os, S.tape, S.out, S.ext.trans hx, S.rho, ?_, ?_, ?_, ?_, S.other, S.wo, ?_, S.objs, ?_⟩
  ·intro i hi hlt
   simp only [Vw.moveTok, List.length_set] at hlt
   by_cases h2 : i = k
   ·simp [Vw.moveTok, upd, h2]; exact h.S.size
   ·simp [Vw.moveTok, upd, h2]; exact S.kap i hi hlt
  ·intro i hi
   by_cases h2 : i = k
   ·simp [Vw.moveTok, upd, h2]; exact .inr h.S.size
   ·simp [Vw.moveTok, upd, h2]; exact S.kapo i hi
  ·intro i hi
   obtain ⟨hi1, hi2⟩ := hmin i hi
   have h2 : i ≠ k := by omega
   simp [Vw.moveTok, upd, h2]
   exact S.kept i hi1
  ·intro b hb hb2
   have : b ≠ w.heap.size := by have := h.S.size; omega
   simp [Vw.moveTok, upd, this]
   exact S.sg b hb hb2
  ·show min s.g.wt k ≤ g0.toks.length
   have := S.wt
   omega
  ·intro i hi
   obtain ⟨hi1, hi2⟩ := hmin i hi
   have hlt0 : i < g0.toks.length := Nat.lt_of_lt_of_le hi1 S.wt
   have hk' := B.kap i (by rw [B.toks]; exact hlt0)
   have hne : v0.kap i ≠ w.heap.size := by have := h.S.size; omega
   have h2 := S.toks i hi1
   refine ⟨?_, h2.2.1, by simp [Vw.moveTok, upd, hne]; exact h2.2.2⟩
   show (s.g.toks.set k pos)[i]? = _
   rw [List.getElem?_set_ne (by omega)]
   exact h2.1
end Go.Vm
set_option linter.unusedVariables false
namespace Go.Vm
open Go
def OpOk (E : Env) (v0 : Vw) (w0 : World) (g0 : G) (v : Vw) (lc : Nat → Nat → Option Nat) (a : Act) (w : World) (o : Oper) (x : V) (s' : St) : Prop :=
 ∃ r w' v' lc' y, (execOp a.eval o).run E.P w = .ok r w' ∧ (r = .value y ∨ (r = .skip ∧ y = undef)) ∧ Ext v v' ∧ (∀ t g b, lc t g = some b → lc' t g = some b) ∧ Rl E v0 w0 g0 v' lc' s' a w' ∧ RepV v' lc' x y
section
variable {E : Env} {v0 : Vw} {w0 : World} {g0 : G} {v : Vw} {lc : Nat → Nat → Option Nat} {s : St} {a : Act} {w : World} {o : Oper}
theorem OpOk.pure (h : Rl E v0 w0 g0 v lc s a w) {x : V} {y : Value} (hr : (execOp a.eval o).run E.P w = .ok (.value y) w) (hy : RepV v lc x y) : OpOk E v0 w0 g0 v lc a w o x s :=
 ⟨_, w, v, lc, y, hr, .inl rfl, Ext.refl v, fun _ _ _ h => h, h, hy⟩
theorem r_info {P : Program} {t : TypeId} {i : TypeInfo} (h : P.info? t = some i) (w : World) : (typeInfo t).run P w = .ok i w := by simp [typeInfo, h]
theorem r_size {P : Program} {t : TypeId} {i : TypeInfo} (h : P.info? t = some i) (w : World) : (sizeOf t).run P w = .ok i.size w := by simp [sizeOf, r_info h]
theorem r_sz {t : TypeId} {n : Nat} (h : sz E t = some n) (w : World) : (sizeOf t).run E.P w = .ok n w := by
 unfold sz at h
 cases hi : E.P.info? t with
 | none => rw [hi] at h; cases h
 | some i => rw [hi] at h; injection h with h; rw [r_size hi]; exact congrArg (fun n => Result.ok n w) h
theorem r_isag {t : TypeId} {b : Bool} (h : isag E t = some b) (w : World) : (Go.isAgg t).run E.P w = .ok b w := by
 unfold isag at h
 unfold Go.isAgg
 cases hu : E.P.underlying t with
 | none => rw [hu] at h; cases h
 | some d =>
  rw [hu] at h
  simp only [Sem.run_bind, run_underlying hu, Result.andThen_ok]
  cases d <;> (injection h with h; subst h; rfl)
theorem r_zero {t : TypeId} {cs : List V} (h : zeroOf E t = some cs) (w : World) : ∃ z, (zeroValue t).run E.P w = .ok z w ∧ RepL v cs z.cells.toList := by
 unfold zeroOf at h
 cases hi : E.P.info? t with
 | none => rw [hi] at h; cases h
 | some i =>
  rw [hi] at h
  simp only at h
  cases hz : i.zero with
  | none => rw [hz] at h; cases h
  | some z =>
   rw [hz] at h
   refine ⟨z, ?_, cstL_rep h⟩
   simp [zeroValue, r_info hi, hz]
theorem r_zeroV {t : TypeId} {x : V} (h : zeroV E t = some x) (w : World) : ∃ z, (zeroValue t).run E.P w = .ok z w ∧ RepA v x z := by
 unfold zeroV at h
 cases hi : E.P.info? t with
 | none => rw [hi] at h; cases h
 | some i =>
  rw [hi] at h
  simp only at h
  cases hz : i.zero with
  | none => rw [hz] at h; cases h
  | some z =>
   rw [hz] at h
   refine ⟨z, ?_, cst_rep h⟩
   simp [zeroValue, r_info hi, hz]
theorem load_rep (h : Rl E v0 w0 g0 v lc s a w) {A : V} {y : Value} {n : Nat} {cs : List V} (hl : s.loadCells A n = some cs) (hA : RepV v lc A y) :
  ∃ (ad : Addr) (ys : List Value), y = .pointer (some ad) ∧ (∀ (j : Nat) (z : Value), ys[j]? = some z → w.cell? (ad.add j) = some z) ∧ RepL v cs ys ∧ cs.length = n := by
 have fromBlock : ∀ (b off : Nat) (C : Array Value) (e : TypeId) (fr : Nat × Nat) (ds : List V), w.heap[b]? = some (.cells C e fr) → RepL v ds C.toList → take? ds off n = some cs →
   ∃ (ys : List Value), (∀ (j : Nat) (z : Value), ys[j]? = some z → w.cell? ((⟨b, off, none⟩ : Addr).add j) = some z) ∧ RepL v cs ys ∧ cs.length = n := by
  intro b off C e fr ds hb hC ht
  unfold take? at ht
  split at ht
  ·rename_i hle
   injection ht with ht
   subst ht
   refine ⟨(C.toList.drop off).take n, fun j z hz => ?_, (hC.drop off).take n, by simp; omega⟩
   rw [add_addr, cell_of hb]
   rw [List.getElem?_take] at hz
   split at hz
   ·rw [List.getElem?_drop, Array.getElem?_toList] at hz
    exact hz
   ·cases hz
  ·cases ht
 cases A with
 | ref row =>
  cases hA with
  | a hA => cases hA with | cell hA => cases hA
  | @ref _ ad ys cs0 h1 h2 h3 h4 =>
   simp only [St.loadCells, take?] at hl
   split at hl
   ·rename_i hle
    injection hl with hl
    subst hl
    simp only [List.drop_zero]
    refine ⟨ad, ys.take n, rfl, fun j z hz => ?_, h3.take n, by simp; omega⟩
    rw [List.getElem?_take] at hz
    split at hz
    ·have hne : row ≠ [] := by
      rintro rfl
      have := h3.1
      have : ys = [] := List.eq_nil_of_length_eq_zero this.symm
      subst this
      simp at hz
     have h5 := h4 j z hz
     obtain ⟨C, e, fr, hb, hp⟩ := h.W.sg _ _ (h2 hne)
     have h6 := hp _ _ h5
     have : ad.add j = ⟨ad.block, ad.off + j, none⟩ := by
      have e : ad = ⟨ad.block, ad.off, none⟩ := by cases ad; simp at h1; simp [h1]
      rw [e, add_addr]
     rw [this, cell_of hb]
     exact h6
    ·cases hz
   ·cases hl
 | loc t g off =>
  cases hA with
  | a hA => cases hA with | cell hA => cases hA
  | @loc _ _ _ b hb =>
   simp only [St.loadCells] at hl
   cases hr : s.rg t with
   | none => rw [hr] at hl; cases hl
   | some x =>
    obtain ⟨g', ds⟩ := x
    rw [hr] at hl
    simp only at hl
    split at hl
    ·rename_i hg
     subst hg
     obtain ⟨b', C, e, fr, q1, q2, q3, q4, _⟩ := h.F.rg t g ds hr
     rw [hb] at q1
     injection q1 with q1
     subst q1
     obtain ⟨ys, h1, h2, h3⟩ := fromBlock b off C e fr ds q2 q4 hl
     exact ⟨_, ys, rfl, h1, h2, h3⟩
    ·cases hl
 | ptr id off =>
  cases hA with
  | a hA => cases hA with | cell hA =>
   cases hA with | ptr hid =>
   simp only [St.loadCells] at hl
   cases hr : s.g.objs[id]? with
   | none => rw [hr] at hl; cases hl
   | some ob =>
    rw [hr] at hl
    cases ob with
    | cells ds =>
     simp only at hl
     have ho := h.W.obj id _ hr
     generalize hx : w.heap[v.rho id]? = X at ho
     cases ho with
     | @cells _ ds2 C e fr q1 q2 =>
      obtain ⟨ys, h1, h2, h3⟩ := fromBlock (v.rho id) off C e fr (ds ++ ds2) hx q2 (take?_more hl)
      exact ⟨_, ys, rfl, h1, h2, h3⟩
    | dead => cases hl
    | map => cases hl
    | iter => cases hl
 | _ => simp [St.loadCells] at hl
theorem loadV_ok (h : Rl E v0 w0 g0 v lc s a w) {A x : V} {y : Value} {t : TypeId} (hl : s.loadV E t A = some x) (hA : RepV v lc A y) : ∃ z, (Instr.loadAt t y).run E.P w = .ok z w ∧ RepA v x z := by
 unfold St.loadV at hl
 cases hg : isag E t with
 | none => rw [hg] at hl; cases hl
 | some b =>
  rw [hg] at hl
  cases b with
  | true =>
   simp only at hl
   cases hn : sz E t with
   | none => rw [hn] at hl; cases hl
   | some n =>
    rw [hn] at hl
    simp only at hl
    cases hc : s.loadCells A n with
    | none => rw [hc] at hl; cases hl
    | some cs =>
     rw [hc] at hl
     injection hl with hl
     subst hl
     obtain ⟨ad, ys, rfl, h1, h2, h3⟩ := load_rep h hc hA
     refine ⟨.agg ys.toArray, ?_, .agg (by simpa using h2)⟩
     have hlen : ys.length = n := by rw [← h2.1, h3]
     simp only [Instr.loadAt, Instr.sureAddr, loadVar, Sem.run_bind, Sem.run_pure, Result.andThen_ok, r_isag hg, if_true, r_sz hn]
     rw [← hlen, run_loadCells_list w ad ys h1]
     rfl
  | false =>
   simp only at hl
   cases hc : s.loadCells A 1 with
   | none => rw [hc] at hl; cases hl
   | some cs =>
    rw [hc] at hl
    match cs, hl with
    | [c], hl =>
     injection hl with hl
     subst hl
     obtain ⟨ad, ys, rfl, h1, h2, h3⟩ := load_rep h hc hA
     obtain ⟨z, hz, hr⟩ := h2.getElem (i := 0) (x := c) rfl
     refine ⟨z, ?_, .cell hr⟩
     have := h1 0 z hz
     rw [show ad.add 0 = ad from by simp [Addr.add]] at this
     simp [Instr.loadAt, Instr.sureAddr, loadVar, r_isag hg, this]
theorem step_load (h : Rl E v0 w0 g0 v lc s a w) {t : TypeId} {p : Operand} (ho : o.op = .load t p) {x : V} {s' : St} (e : stepV E s o = some (x, s')) : OpOk E v0 w0 g0 v lc a w o x s' := by
 simp only [stepV, ho] at e
 cases hp : s.ev E p with
 | none => rw [hp] at e; cases e
 | some A =>
  rw [hp] at e
  simp only at e
  cases hl : s.loadV E t A with
  | none => rw [hl] at e; cases e
  | some z =>
   rw [hl] at e
   simp only [Option.map_some, Option.some.injEq, Prod.mk.injEq] at e
   obtain ⟨rfl, rfl⟩ := e
   obtain ⟨y, hy, hr⟩ := loadV_ok h hl (ev_rep h.W h.F hp)
   exact OpOk.pure h (by simp [execOp, ho, hy]) (.a hr)
theorem step_move (h : Rl E v0 w0 g0 v lc s a w) {p : Operand} (ho : o.op = .move p ∨ o.op = .assign p) {x : V} {s' : St} (e : stepV E s o = some (x, s')) : OpOk E v0 w0 g0 v lc a w o x s' := by
 have key : ∀ z, s.ev E p = some z → some (z, s) = some (x, s') → (execOp a.eval o).run E.P w = .ok (.value (a.eval p)) w → OpOk E v0 w0 g0 v lc a w o x s' := by
  intro z hz e hr
  injection e with e
  simp only [Prod.mk.injEq] at e
  obtain ⟨rfl, rfl⟩ := e
  exact OpOk.pure h hr (ev_rep h.W h.F hz)
 rcases ho with ho | ho
 all_goals
  simp only [stepV, ho] at e
  cases hp : s.ev E p with
  | none => rw [hp] at e; cases e
  | some z => rw [hp] at e; exact key z hp e (by simp [execOp, ho])
theorem RepA.bool_inv {t : Bool} {y : Value} (h : RepV v lc (.p (.bool t)) y) : y = .bool t := by
 cases h with | a h => cases h with | cell h => cases h with | p h => cases h; rfl
theorem RepA.int_inv {k : IntKind} {n : Int} {y : Value} (h : RepV v lc (.p (.int k n)) y) : y = .int k n := by
 cases h with | a h => cases h with | cell h => cases h with | p h => cases h; rfl
theorem RepA.str_inv {b : ByteArray} {y : Value} (h : RepV v lc (.p (.str b)) y) : y = .string b := by
 cases h with | a h => cases h with | cell h => cases h with | p h => cases h; rfl
theorem step_pick (h : Rl E v0 w0 g0 v lc s a w) {c p q : Operand} (ho : o.op = .pick c p q) {x : V} {s' : St} (e : stepV E s o = some (x, s')) : OpOk E v0 w0 g0 v lc a w o x s' := by
 simp only [stepV, ho] at e
 cases hc : s.ev E c with
 | none => rw [hc] at e; cases e
 | some C =>
  rw [hc] at e
  match C, hc, e with
  | .p (.bool t), hc, e =>
   simp only at e
   cases hp : s.ev E (if t = true then p else q) with
   | none => rw [hp] at e; cases e
   | some z =>
    rw [hp] at e
    simp only [Option.map_some, Option.some.injEq, Prod.mk.injEq] at e
    obtain ⟨rfl, rfl⟩ := e
    have hb := RepA.bool_inv (ev_rep h.W h.F hc)
    have hz := ev_rep h.W h.F hp
    refine OpOk.pure h ?_ hz
    simp only [execOp, ho, Sem.run_bind, asBool, hb, Sem.run_pure, Result.andThen_ok]
    cases t <;> rfl
theorem RepV.p_of {x : PV} {y : Value} (h : RepP v.sg x y) : RepV v lc (.p x) y := .a (.cell (.p h))
end
end Go.Vm
set_option linter.unusedVariables false
namespace Go.Vm
open Go
section
variable {E : Env} {v0 : Vw} {w0 : World} {g0 : G} {v : Vw} {lc : Nat → Nat → Option Nat} {s : St} {a : Act} {w : World} {o : Oper}
def real : PV → Value
  | .int k n => .int k n
  | .bool b => .bool b
  | .str s => .string s
  | _ => undef
def lit : PV → Bool
  | .int .. | .bool _ | .str _ => true
  | _ => false
theorem rep_lit {x : PV} (h : lit x = true) : RepP v.sg x (real x) := by
  cases x <;> simp [lit] at h <;> constructor
theorem ibin_ok' {op : BinOp} {k : IntKind} {m n : Int} {x : PV} (e : ibin op k m n = some x) (t : TypeId) (w : World) : (binOp op t (.int k m) (.int k n)).run E.P w = .ok (real x) w ∧ lit x = true := by
  cases op <;> simp only [ibin] at e <;> first
    | (injection e with e; subst e; refine ⟨?_, rfl⟩; simp [binOp, Op.intArith, Op.intBits, Op.intCmp, real]; done)
    | (split at e
       · cases e
       · rename_i hb
         injection e with e; subst e
         refine ⟨?_, rfl⟩
         simp [binOp, Op.intDiv, hb, real])
    | cases e
theorem sbin_ok {op : BinOp} {m n : ByteArray} {x : PV} (e : sbin op m n = some x) (t : TypeId) (w : World) : (binOp op t (.string m) (.string n)).run E.P w = .ok (real x) w ∧ lit x = true := by
  cases op <;> simp only [sbin] at e <;> first
    | (injection e with e; subst e; refine ⟨?_, rfl⟩; simp [binOp, Op.stringOp, real]; done)
    | (split at e
       · cases e
       · rename_i hb
         injection e with e; subst e
         refine ⟨?_, rfl⟩
         simp only [binOp, Op.stringOp, hb, if_false, real]
         rfl)
    | cases e
theorem equalIn_bool (P : Program) (d : Nat) {t : TypeId} (hu : P.underlying t = some .bool) (a b : Bool) (w : World) : (Op.equalIn (d + 1) t (.bool a) (.bool b)).run P w = .ok (a == b) w := by
  rw [Op.equalIn]
  simp only [Sem.run_bind, run_underlying hu, Result.andThen_ok, Sem.run_pure]
theorem equal_bool (P : Program) {t : TypeId} (hu : P.underlying t = some .bool) (a b : Bool) (w : World) : (Op.equal t (.bool a) (.bool b)).run P w = .ok (a == b) w := equalIn_bool P 9999 hu a b w
theorem shape_rep {X : V} {x : Value} {k : Nat} {a : Bool} (h : shape X = some (k, a)) (hX : RepV v lc X x) :
    (k = 1 ∧ ∃ p m n, x = .slice p m n ∧ p.isNone = a) ∨ (k = 2 ∧ ∃ p, x = .pointer p ∧ p.isNone = a) ∨ (k = 3 ∧ ∃ p, x = .map p ∧ p.isNone = a) ∨
    (k = 4 ∧ ((a = true ∧ x = .nilFunc) ∨ (a = false ∧ ∃ f p q, x = .func f p q))) := by
  have hc : one X = true → RepC v X x := by
    intro h1
    cases hX with
    | a hX => cases hX with
      | cell hX => exact hX
      | agg => cases h1
    | ref => cases h1
    | loc => cases h1
    | tup => cases h1
    | undef => cases h1
  cases X with
  | p y =>
    have hc := hc rfl
    cases hc with | p hc =>
    cases y <;> simp only [shape] at h <;> first | cases h | skip
    all_goals cases hc
    · exact Or.inl ⟨rfl, _, _, _, rfl, rfl⟩
    · exact Or.inr (Or.inl ⟨rfl, _, rfl, rfl⟩)
    · exact Or.inr (Or.inr (Or.inl ⟨rfl, _, rfl, rfl⟩))
    · exact Or.inr (Or.inr (Or.inr ⟨rfl, Or.inl ⟨rfl, rfl⟩⟩))
    · exact Or.inl ⟨rfl, _, _, _, rfl, rfl⟩
  | sl => have hc := hc rfl; cases h; cases hc; exact Or.inl ⟨rfl, _, _, _, rfl, rfl⟩
  | arr => have hc := hc rfl; cases h; cases hc; exact Or.inl ⟨rfl, _, _, _, rfl, rfl⟩
  | ptr => have hc := hc rfl; cases h; cases hc; exact Or.inr (Or.inl ⟨rfl, _, rfl, rfl⟩)
  | map => have hc := hc rfl; cases h; cases hc; exact Or.inr (Or.inr (Or.inl ⟨rfl, _, rfl, rfl⟩))
  | fn => have hc := hc rfl; cases h; cases hc; exact Or.inr (Or.inr (Or.inr ⟨rfl, Or.inr ⟨rfl, _, _, _, rfl⟩⟩))
  | _ => cases h
theorem nil_ok {d : TypeDesc} {t : TypeId} {X Y : V} {x y : Value} {k : Nat} {a b : Bool} (hu : E.P.underlying t = some d) (hx : shape X = some (k, a)) (hy : shape Y = some (k, b)) (hd : k = shapeT d)
    (hab : (a || b) = true) (hX : RepV v lc X x) (hY : RepV v lc Y y) (p q : Operand) (w : World) :
    (do eqGuard .eql t p q x y; binOp .eql t x y : Sem Value).run E.P w = .ok (.bool (a && b)) w ∧ (do eqGuard .neq t p q x y; binOp .neq t x y : Sem Value).run E.P w = .ok (.bool (!(a && b))) w := by
  have key : ∀ x y, ((∃ p m n p' m' n', x = Value.slice p m n ∧ y = Value.slice p' m' n') ∨ (∃ p p', x = Value.pointer p ∧ y = Value.pointer p') ∨ (∃ p p', x = Value.map p ∧ y = Value.map p') ∨
      ((x = .nilFunc ∨ ∃ f p q, x = .func f p q) ∧ (y = .nilFunc ∨ ∃ f p q, y = .func f p q))) → (Op.equal t x y).run E.P w = .ok (a && b) w →
      (do eqGuard .eql t p q x y; binOp .eql t x y : Sem Value).run E.P w = .ok (.bool (a && b)) w ∧ (do eqGuard .neq t p q x y; binOp .neq t x y : Sem Value).run E.P w = .ok (.bool (!(a && b))) w := by
    intro x y h he
    rcases h with ⟨_, _, _, _, _, _, rfl, rfl⟩ | ⟨_, _, rfl, rfl⟩ | ⟨_, _, rfl, rfl⟩ | ⟨rfl | ⟨_, _, _, rfl⟩, rfl | ⟨_, _, _, rfl⟩⟩ <;>
      exact ⟨by simp [eqGuard, binOp, he], by simp [eqGuard, binOp, he]⟩
  rcases shape_rep hx hX with ⟨rfl, p1, m1, n1, rfl, ha⟩ | ⟨rfl, p1, rfl, ha⟩ | ⟨rfl, p1, rfl, ha⟩ | ⟨rfl, ha⟩
  · rcases shape_rep hy hY with ⟨_, p2, m2, n2, rfl, hb⟩ | ⟨hk, _⟩ | ⟨hk, _⟩ | ⟨hk, _⟩
    · refine key _ _ (Or.inl ⟨_, _, _, _, _, _, rfl, rfl⟩) ?_
      cases d <;> simp only [shapeT] at hd <;> first | (exfalso; omega) | skip
      rw [Op.equal, Op.maxDepth, Op.equalIn]
      simp only [Sem.run_bind, run_underlying hu, Result.andThen_ok]
      cases p1 <;> cases p2 <;> simp at ha hb <;> subst ha <;> subst hb <;> first | (simp at hab; done) | rfl
    all_goals (exfalso; omega)
  · rcases shape_rep hy hY with ⟨hk, _⟩ | ⟨_, p2, rfl, hb⟩ | ⟨hk, _⟩ | ⟨hk, _⟩
    · exfalso; omega
    · refine key _ _ (Or.inr (Or.inl ⟨_, _, rfl, rfl⟩)) ?_
      cases d <;> simp only [shapeT] at hd <;> first | (exfalso; omega) | skip
      rw [Op.equal, Op.maxDepth, Op.equalIn]
      simp only [Sem.run_bind, run_underlying hu, Result.andThen_ok]
      cases p1 <;> cases p2 <;> simp at ha hb <;> subst ha <;> subst hb <;> first | (simp at hab; done) | rfl
    all_goals (exfalso; omega)
  · rcases shape_rep hy hY with ⟨hk, _⟩ | ⟨hk, _⟩ | ⟨_, p2, rfl, hb⟩ | ⟨hk, _⟩
    · exfalso; omega
    · exfalso; omega
    · refine key _ _ (Or.inr (Or.inr (Or.inl ⟨_, _, rfl, rfl⟩))) ?_
      cases d <;> simp only [shapeT] at hd <;> first | (exfalso; omega) | skip
      rw [Op.equal, Op.maxDepth, Op.equalIn]
      simp only [Sem.run_bind, run_underlying hu, Result.andThen_ok]
      cases p1 <;> cases p2 <;> simp at ha hb <;> subst ha <;> subst hb <;> first | (simp at hab; done) | rfl
    · exfalso; omega
  · rcases shape_rep hy hY with ⟨hk, _⟩ | ⟨hk, _⟩ | ⟨hk, _⟩ | ⟨_, hb⟩
    · exfalso; omega
    · exfalso; omega
    · exfalso; omega
    · refine key _ _ (Or.inr (Or.inr (Or.inr ⟨?_, ?_⟩))) ?_
      · rcases ha with ⟨_, rfl⟩ | ⟨_, f, p, q, rfl⟩
        · exact Or.inl rfl
        · exact Or.inr ⟨_, _, _, rfl⟩
      · rcases hb with ⟨_, rfl⟩ | ⟨_, f, p, q, rfl⟩
        · exact Or.inl rfl
        · exact Or.inr ⟨_, _, _, rfl⟩
      · cases d <;> simp only [shapeT] at hd <;> first | (exfalso; omega) | skip
        rw [Op.equal, Op.maxDepth, Op.equalIn]
        simp only [Sem.run_bind, run_underlying hu, Result.andThen_ok]
        rcases ha with ⟨rfl, rfl⟩ | ⟨rfl, f, p, q, rfl⟩ <;> rcases hb with ⟨rfl, rfl⟩ | ⟨rfl, f, p, q, rfl⟩ <;> first | (simp at hab; done) | rfl
theorem bin_ok {op : BinOp} {t : TypeId} {X Y : V} {x y : Value} {z : PV} (e : bin E op t X Y = some z) (hX : RepV v lc X x) (hY : RepV v lc Y y) (p q : Operand) (w : World) :
    (do eqGuard op t p q x y; binOp op t x y : Sem Value).run E.P w = .ok (real z) w ∧ lit z = true := by
  unfold bin at e
  split at e
  ·
    rename_i k m k' n
    rw [RepA.int_inv hX, RepA.int_inv hY]
    have hg : (eqGuard op t p q (.int k m) (.int k' n)).run E.P w = .ok () w := by
      unfold eqGuard
      split <;> rfl
    rw [Sem.run_bind, hg]
    simp only [Result.andThen_ok]
    split at e
    · split at e
      · cases e
      · rename_i hb
        injection e with e; subst e
        exact ⟨by simp [binOp, Op.shift, hb, real], rfl⟩
    · split at e
      · cases e
      · rename_i hb
        injection e with e; subst e
        exact ⟨by simp [binOp, Op.shift, hb, real], rfl⟩
    · split at e
      · rename_i hk
        subst hk
        exact ibin_ok' e t w
      · cases e
  · rw [RepA.str_inv hX, RepA.str_inv hY]
    rename_i m n
    have hg : (eqGuard op t p q (.string m) (.string n)).run E.P w = .ok () w := by
      unfold eqGuard
      split <;> rfl
    rw [Sem.run_bind, hg]
    simp only [Result.andThen_ok]
    exact sbin_ok e t w
  · rw [RepA.bool_inv hX, RepA.bool_inv hY]
    rename_i m n
    have hg : (eqGuard op t p q (.bool m) (.bool n)).run E.P w = .ok () w := by
      unfold eqGuard
      split <;> rfl
    rw [Sem.run_bind, hg]
    simp only [Result.andThen_ok]
    split at e
    · rename_i hu
      split at e
      · injection e with e; subst e
        refine ⟨?_, rfl⟩
        simp only [binOp, Sem.run_bind, equal_bool E.P hu, Result.andThen_ok, Sem.run_pure, real]
      · injection e with e; subst e
        refine ⟨?_, rfl⟩
        simp only [binOp, Sem.run_bind, equal_bool E.P hu, Result.andThen_ok, Sem.run_pure, real]
      · cases e
    · cases e
  · rename_i X Y _ _ _
    split at e
    · rename_i d k a k' b hu hsx hsy
      split at e
      · rename_i hk
        obtain ⟨rfl, hd, hab⟩ := hk
        obtain ⟨h1, h2⟩ := nil_ok hu hsx hsy hd hab hX hY p q w
        split at e
        · injection e with e; subst e
          exact ⟨h1, rfl⟩
        · injection e with e; subst e
          exact ⟨h2, rfl⟩
        · cases e
      · cases e
    · cases e
theorem step_bin (h : Rl E v0 w0 g0 v lc s a w) {op : BinOp} {t u : TypeId} {p q : Operand} (ho : o.op = .binOp op t p q u) {x : V} {s' : St} (e : stepV E s o = some (x, s')) : OpOk E v0 w0 g0 v lc a w o x s' := by
  simp only [stepV, ho] at e
  cases hp : s.ev E p with
  | none => rw [hp] at e; cases e
  | some X =>
    cases hq : s.ev E q with
    | none => rw [hp, hq] at e; cases e
    | some Y =>
      rw [hp, hq] at e
      simp only at e
      cases hb : bin E op t X Y with
      | none => rw [hb] at e; cases e
      | some z =>
        rw [hb] at e
        simp only [Option.map_some, Option.some.injEq, Prod.mk.injEq] at e
        obtain ⟨rfl, rfl⟩ := e
        obtain ⟨h1, h2⟩ := bin_ok hb (ev_rep h.W h.F hp) (ev_rep h.W h.F hq) p q w
        refine OpOk.pure h (y := real z) ?_ (RepV.p_of (rep_lit h2))
        simp only [execOp, ho]
        rw [Sem.run_bind, h1]
        rfl
theorem step_un (h : Rl E v0 w0 g0 v lc s a w) {op : UnOp} {t : TypeId} {p : Operand} (ho : o.op = .unOp op t p) {x : V} {s' : St} (e : stepV E s o = some (x, s')) : OpOk E v0 w0 g0 v lc a w o x s' := by
  simp only [stepV, ho] at e
  cases hp : s.ev E p with
  | none => rw [hp] at e; cases e
  | some X =>
    rw [hp] at e
    simp only at e
    cases hb : un op X with
    | none => rw [hb] at e; cases e
    | some z =>
      rw [hb] at e
      simp only [Option.map_some, Option.some.injEq, Prod.mk.injEq] at e
      obtain ⟨rfl, rfl⟩ := e
      have hX := ev_rep h.W h.F hp
      unfold un at hb
      split at hb
      · injection hb with hb; subst hb
        refine OpOk.pure h (y := .bool (!_)) ?_ (RepV.p_of .bool)
        simp [execOp, ho, RepA.bool_inv hX, Op.unary]
      · injection hb with hb; subst hb
        refine OpOk.pure h (y := .int _ _) ?_ (RepV.p_of .int)
        simp [execOp, ho, RepA.int_inv hX, Op.unary, Op.intArith]
      · cases hb
theorem conv_ok {A B : TypeDesc} {x z : V} {y : Value} {src dst : TypeId} (hA : E.P.underlying src = some A) (hB : E.P.underlying dst = some B) (e : convT A B x = some z) (hx : RepV v lc x y) (w : World) :
    ∃ r, (convert src dst y).run E.P w = .ok r w ∧ RepV v lc z r := by
  unfold convT at e
  split at e
  · injection e with e; subst e
    rw [RepA.int_inv hx]
    refine ⟨.int _ _, ?_, RepV.p_of .int⟩
    simp [convert, run_underlying hA, run_underlying hB, Conv.intToInt]
  · rw [RepA.str_inv hx]
    split at e
    · injection e with e; subst e
      refine ⟨.string _, ?_, RepV.p_of .str⟩
      simp [convert, run_underlying hA, run_underlying hB]
    · cases e
  · cases e
end
end Go.Vm
set_option linter.unusedVariables false
namespace Go.Vm
open Go
section
variable {E : Env} {v0 : Vw} {w0 : World} {g0 : G} {v : Vw} {lc : Nat → Nat → Option Nat} {s : St} {a : Act} {w : World} {o : Oper}
theorem newVar_ok (B : Base v0 w0 g0) (h : Rl E v0 w0 g0 v lc s a w) {dst : Option Tmp} {cs : List V} {x : V} {s' : St} (e : s.newVar dst cs = some (x, s')) {C : Array Value} (hC : RepL v cs C.toList) (t : TypeId) :
  ∃ v' lc', Ext v v' ∧ (∀ t g b, lc t g = some b → lc' t g = some b) ∧ Rl E v0 w0 g0 v' lc' s' a { w with heap := w.heap.push (.cells C t) } ∧ RepV v' lc' x (.pointer (some ⟨w.heap.size, 0, none⟩)) := by
 unfold St.newVar at e
 split at e
 ·rename_i d
  split at e
  ·rename_i h1
   split at e
   ·injection e with e
    simp only [Prod.mk.injEq] at e
    obtain ⟨rfl, rfl⟩ := e
    obtain ⟨hx, hR⟩ := h.pushO B (.cells cs) (.cells C t) C.size (fun C' e fr h => by cases h; rfl) (.cells (ds := []) (fun i hi hh => by simp at hh) (by rw [List.append_nil]; exact hC.ext (Ext.addObj v _ _)))
    refine ⟨_, lc, hx, fun _ _ _ h => h, hR, .a (.cell ?_)⟩
    have hn : v.nobj = s.g.objs.length := h.W.nobj
    have : (v.addObj w.heap.size C.size).rho s.g.objs.length = w.heap.size := by simp [Vw.addObj, upd, hn]
    have r := RepC.ptr (v := v.addObj w.heap.size C.size) (id := s.g.objs.length) (off := 0) (by simp [Vw.addObj, hn])
    rw [this] at r
    exact r
   ·injection e with e
    simp only [Prod.mk.injEq] at e
    obtain ⟨rfl, rfl⟩ := e
    cases hr : s.rg d with
    | none =>
     simp only
     obtain ⟨hl, hR⟩ := h.pushR B d 0 cs C t (fun g' ds e2 => by rw [hr] at e2; cases e2) hC
     exact ⟨v, _, Ext.refl v, hl, hR, .loc (by simp [addLc])⟩
    | some y =>
     obtain ⟨g, ds⟩ := y
     simp only
     obtain ⟨hl, hR⟩ := h.pushR B d (g + 1) cs C t (fun g' ds' e2 => by rw [hr] at e2; injection e2 with e2; simp only [Prod.mk.injEq] at e2; omega) hC
     exact ⟨v, _, Ext.refl v, hl, hR, .loc (by simp [addLc])⟩
  ·cases e
 ·cases e
theorem step_alloc (B : Base v0 w0 g0) (h : Rl E v0 w0 g0 v lc s a w) {t : TypeId} (ho : o.op = .alloc t) {x : V} {s' : St} (e : stepV E s o = some (x, s')) : OpOk E v0 w0 g0 v lc a w o x s' := by
 simp only [stepV, ho] at e
 cases hz : zeroOf E t with
 | none => rw [hz] at e; cases e
 | some cs =>
  rw [hz] at e
  obtain ⟨z, h1, h2⟩ := r_zero (v := v) hz w
  obtain ⟨v', lc', q1, q2, q3, q4⟩ := newVar_ok B h e h2 t
  refine ⟨_, _, v', lc', _, ?_, .inl rfl, q1, q2, q3, q4⟩
  simp [execOp, ho, Instr.alloc, h1, Go.newVar, newRow]
theorem step_box (B : Base v0 w0 g0) (h : Rl E v0 w0 g0 v lc s a w) {t : TypeId} {p : Operand} (ho : o.op = .box t p) {x : V} {s' : St} (e : stepV E s o = some (x, s')) : OpOk E v0 w0 g0 v lc a w o x s' := by
 simp only [stepV, ho] at e
 cases hp : s.ev E p with
 | none => rw [hp] at e; cases e
 | some X =>
  rw [hp] at e
  simp only at e
  have h1 : (cellsOf X).all one = true := by
   unfold St.newVar at e
   split at e
   ·split at e
    ·rename_i hh; exact hh
    ·cases e
   ·cases e
  have hA := (ev_rep h.W h.F hp).toA h1
  have hC := hA.cellsOf (fun _ _ => trivial)
  obtain ⟨v', lc', q1, q2, q3, q4⟩ := newVar_ok B h e hC t
  refine ⟨_, _, v', lc', _, ?_, .inl rfl, q1, q2, q3, q4⟩
  simp [execOp, ho, Instr.box, Go.newVar, newRow]
theorem storeCells_ok (B : Base v0 w0 g0) (h : Rl E v0 w0 g0 v lc s a w) {A : V} {y : Value} {vs : List V} {ys : List Value} {s' : St} (e : s.storeCells A vs = some s') (hA : RepV v lc A y) (hy : RepL v vs ys) :
  ∃ ad w', y = .pointer (some ad) ∧ (Go.storeCells ad ys).run E.P w = .ok () w' ∧ Rl E v0 w0 g0 v lc s' a w' := by
 unfold St.storeCells at e
 split at e
 ·split at e
  ·rename_i t g off
   cases hA with
   | a hA => cases hA with | cell hA => cases hA
   | @loc _ _ _ b hb =>
    cases hr : s.rg t with
    | none => rw [hr] at e; cases e
    | some z =>
     obtain ⟨g', cs⟩ := z
     rw [hr] at e
     simp only at e
     split at e
     ·rename_i hg
      subst hg
      cases hp : put? cs off vs with
      | none => rw [hp] at e; cases e
      | some cs' =>
       rw [hp] at e
       injection e with e
       subst e
       obtain ⟨b', C, el, fr, q1, q2, q3, q4, q5, q6⟩ := h.F.rg t g cs hr
       rw [hb] at q1
       injection q1 with q1
       subst q1
       have hle : off + ys.length ≤ C.size := by
        unfold put? at hp
        split at hp
        ·rename_i hh
         have := q4.1
         simp only [Array.length_toList] at this
         have := hy.1
         omega
        ·cases hp
       obtain ⟨w', C', h1, h2, h3, h4⟩ := run_storeCells E.P b off el fr ys 0 C w q2 q3 (by omega) hy.oneCell
       obtain ⟨h5, _⟩ := put_rep hp q4 hy h2 h4
       exact ⟨_, w', rfl, h1, h.storeR B hr hb h3 (by rw [h2]; exact q3) h5⟩
     ·cases e
  ·rename_i id off
   cases hA with
   | a hA => cases hA with | cell hA =>
    cases hA with | ptr hid =>
    cases hr : s.g.objs[id]? with
    | none => rw [hr] at e; cases e
    | some ob =>
     rw [hr] at e
     cases ob with
     | map => cases e
     | dead => cases e
     | iter => cases e
     | cells cs =>
      simp only at e
      cases hp : put? cs off vs with
      | none => rw [hp] at e; cases e
      | some cs' =>
       rw [hp] at e
       injection e with e
       subst e
       have hob := h.W.obj id _ hr
       generalize hx : w.heap[v.rho id]? = X at hob
       cases hob with
       | @cells _ ds C el fr q3 q4 =>
        have hp := put?_more (ds := ds) hp
        have hle : off + ys.length ≤ C.size := by
         unfold put? at hp
         split at hp
         ·rename_i hh
          have := q4.1
          simp only [Array.length_toList] at this
          have := hy.1
          omega
         ·cases hp
        obtain ⟨w', C', h1, h2, h3, h4⟩ := run_storeCells E.P (v.rho id) off el fr ys 0 C w hx q3 (by omega) hy.oneCell
        obtain ⟨h5, _⟩ := put_rep hp q4 hy h2 h4
        exact ⟨_, w', rfl, h1, h.storeO B (List.getElem?_eq_some_iff.1 hr).1 ⟨_, hr, rfl⟩ h3 (fun C2 e2 fr2 h => by cases h; exact ⟨C, _, _, hx, h2⟩) (.cells (by rw [h2]; exact q3) h5)⟩
  ·cases e
 ·cases e
theorem step_store (B : Base v0 w0 g0) (h : Rl E v0 w0 g0 v lc s a w) {t : TypeId} {p q : Operand} (ho : o.op = .store t p q) {x : V} {s' : St} (e : stepV E s o = some (x, s')) : OpOk E v0 w0 g0 v lc a w o x s' := by
 simp only [stepV, ho] at e
 cases hp : s.ev E p with
 | none => rw [hp] at e; cases e
 | some A =>
  cases hq : s.ev E q with
  | none => rw [hp, hq] at e; cases e
  | some X =>
   cases hn : sz E t with
   | none => rw [hp, hq, hn] at e; cases e
   | some n =>
    rw [hp, hq, hn] at e
    simp only at e
    split at e
    ·rename_i hlen
     cases hs : s.storeCells A (cellsOf X) with
     | none => rw [hs] at e; cases e
     | some s1 =>
      rw [hs] at e
      injection e with e
      simp only [Prod.mk.injEq] at e
      obtain ⟨rfl, rfl⟩ := e
      have h1 : (cellsOf X).all one = true := by
       unfold St.storeCells at hs
       split at hs
       ·rename_i hh; exact hh
       ·cases hs
      have hA := (ev_rep h.W h.F hq).toA h1
      have hC := hA.cellsOf (fun _ _ => trivial)
      obtain ⟨ad, w', h2, h3, h4⟩ := storeCells_ok B h hs (ev_rep h.W h.F hp) hC
      refine ⟨.skip, w', v, lc, undef, ?_, .inr ⟨rfl, rfl⟩, Ext.refl v, fun _ _ _ h => h, h4, .undef⟩
      have hsz : (a.eval q).cells.size = n := by
       have := hC.1
       simp only [Array.length_toList] at this
       omega
      simp [execOp, ho, Instr.storeAt, h2, Instr.sureAddr, storeVar, r_sz hn, hsz, h3]
    ·cases e
theorem fieldOf_ok {t : TypeId} {f off n : Nat} {ag : Bool} (e : fieldOf E t f = some (off, n, ag)) : ∃ fs x, E.P.underlying t = some (.struct fs) ∧ fs[f]? = some x ∧ x.offset = off ∧ sz E x.type = some n ∧ isag E x.type = some ag ∧ n ≠ 0 := by
 unfold fieldOf at e
 split at e
 ·rename_i fs hu
  split at e
  ·rename_i x hx
   split at e
   ·rename_i n' ag' h1 h2
    split at e
    ·cases e
    ·rename_i h0
     injection e with e
     simp only [Prod.mk.injEq] at e
     obtain ⟨rfl, rfl, rfl⟩ := e
     exact ⟨fs, x, hu, hx, rfl, h1, h2, h0⟩
   ·cases e
  ·cases e
 ·cases e
theorem addTo_ok {A A' : V} {y : Value} {n : Nat} (e : addTo A n = some A') (hA : RepV v lc A y) : ∃ ad, y = .pointer (some ad) ∧ RepV v lc A' (.pointer (some (ad.add n))) := by
 unfold addTo at e
 split at e
 ·rename_i row
  cases hA with
  | a hA => cases hA with | cell hA => cases hA
  | @ref _ ad ys cs0 h1 h2 h3 h4 =>
   split at e
   ·rename_i hle
    injection e with e
    subst e
    have hk : ad = ⟨ad.block, ad.off, none⟩ := by cases ad; simp at h1; simp [h1]
    have had : ad.add n = ⟨ad.block, ad.off + n, none⟩ := by rw [hk, add_addr]
    refine ⟨ad, rfl, ?_⟩
    rw [had]
    refine .ref (ys.drop n) cs0 rfl (fun hne => h2 (fun h => hne (by rw [h]; simp))) (h3.drop n) (fun j z hz => ?_)
    rw [List.getElem?_drop] at hz
    have := h4 _ z hz
    simpa [Nat.add_assoc] using this
   ·cases e
 ·cases hA with
  | a hA => cases hA with | cell hA => cases hA
  | @loc t g off b hb =>
   injection e with e
   subst e
   refine ⟨_, rfl, ?_⟩
   rw [add_addr]
   exact .loc hb
 ·cases hA with
  | a hA => cases hA with | cell hA =>
   cases hA with | ptr hid =>
   injection e with e
   subst e
   refine ⟨_, rfl, ?_⟩
   rw [add_addr]
   exact .a (.cell (.ptr hid))
 ·cases e
theorem step_fieldAddr (h : Rl E v0 w0 g0 v lc s a w) {t : TypeId} {p : Operand} {f : Nat} (ho : o.op = .fieldAddr t p f) {x : V} {s' : St} (e : stepV E s o = some (x, s')) : OpOk E v0 w0 g0 v lc a w o x s' := by
 simp only [stepV, ho] at e
 cases hp : s.ev E p with
 | none => rw [hp] at e; cases e
 | some A =>
  cases hf : fieldOf E t f with
  | none => rw [hp, hf] at e; cases e
  | some z =>
   obtain ⟨off, n, ag⟩ := z
   rw [hp, hf] at e
   simp only at e
   cases hd : addTo A off with
   | none => rw [hd] at e; cases e
   | some A' =>
    rw [hd] at e
    injection e with e
    simp only [Prod.mk.injEq] at e
    obtain ⟨rfl, rfl⟩ := e
    obtain ⟨fs, fd, h1, h2, h3, h4, h5, h6⟩ := fieldOf_ok hf
    obtain ⟨ad, h7, h8⟩ := addTo_ok hd (ev_rep h.W h.F hp)
    refine OpOk.pure h ?_ h8
    simp only [execOp, ho, Instr.fieldAt, Sem.run_bind, run_underlying h1, Result.andThen_ok, h2, h7, Instr.sureAddr, Sem.run_pure, fieldPlace, r_sz h4, if_neg h6, h3]
theorem mkv_ok {ag : Bool} {cs : List V} {x : V} (e : mkv ag cs = some x) {ys : List Value} (h : RepL v cs ys) : ∃ z, RepA v x z ∧ z.cells.toList = ys ∧ (ag = true → z = .agg ys.toArray) ∧ (ag = false → ys = [z]) := by
 unfold mkv at e
 split at e
 ·rename_i hg
  injection e with e
  subst e
  exact ⟨.agg ys.toArray, .agg h, by simp [Value.cells], fun _ => rfl, fun h => by rw [hg] at h; cases h⟩
 ·rename_i hg
  split at e
  ·injection e with e
   subst e
   match ys, h with
   | [z], h =>
    refine ⟨z, .cell h.head, ?_, fun h => absurd h hg, fun _ => rfl⟩
    have := h.oneCell z (by simp)
    cases z <;> first | rfl | simp [Value.oneCell'] at this
   | [], h => exact absurd h.1 (by simp)
   | _ :: _ :: _, h => exact absurd h.1 (by simp)
  ·cases e
theorem step_field (h : Rl E v0 w0 g0 v lc s a w) {t : TypeId} {p : Operand} {f : Nat} (ho : o.op = .field t p f) {x : V} {s' : St} (e : stepV E s o = some (x, s')) : OpOk E v0 w0 g0 v lc a w o x s' := by
 simp only [stepV, ho] at e
 cases hp : s.ev E p with
 | none => rw [hp] at e; cases e
 | some A =>
  cases hf : fieldOf E t f with
  | none => rw [hp, hf] at e; split at e <;> first | cases e | (rename_i hh; cases hh)
  | some z =>
   obtain ⟨off, n, ag⟩ := z
   rw [hp, hf] at e
   match A, hp, e with
   | .agg cs, hp, e =>
    simp only at e
    cases ht : take? cs off n with
    | none => rw [ht] at e; cases e
    | some r =>
     rw [ht] at e
     simp only at e
     cases hm : mkv ag r with
     | none => rw [hm] at e; cases e
     | some X =>
      rw [hm] at e
      injection e with e
      simp only [Prod.mk.injEq] at e
      obtain ⟨rfl, rfl⟩ := e
      obtain ⟨fs, fd, h1, h2, h3, h4, h5, h6⟩ := fieldOf_ok hf
      have hA := ev_rep h.W h.F hp
      cases hA with
      | a hA =>
       generalize hy : a.eval p = Y at hA
       cases hA with
       | cell hA => cases hA
       | @agg _ ys hL =>
        unfold take? at ht
        split at ht
        ·rename_i hle
         injection ht with ht
         subst ht
         obtain ⟨z, q1, q2, q3, q4⟩ := mkv_ok hm ((hL.drop off).take n)
         refine OpOk.pure h ?_ (.a q1)
         simp only [execOp, ho, Instr.field, Sem.run_bind, run_underlying h1, Result.andThen_ok, h2, hy, asAgg, Sem.run_pure, part, r_isag h5, h3]
         have hl := hL.1
         cases ag with
         | true =>
          rw [q3 rfl]
          simp only [if_true, Sem.run_bind, r_sz h4, Result.andThen_ok, Sem.run_pure]
          congr 3
          simp
         | false =>
          have hz := q4 rfl
          simp only [Bool.false_eq_true, if_false]
          have : ys[off]? = some z := by
           have h9 : ((ys.drop off).take n)[0]? = some z := by rw [hz]; rfl
           rw [List.getElem?_take] at h9
           split at h9
           ·rw [List.getElem?_drop] at h9; simpa using h9
           ·cases h9
          simp [this]
        ·cases ht
end
end Go.Vm
set_option linter.unusedVariables false
namespace Go.Vm
open Go
section
variable {E : Env} {v0 : Vw} {w0 : World} {g0 : G} {v : Vw} {lc : Nat → Nat → Option Nat} {s : St} {a : Act} {w : World} {o : Oper}
theorem foldl_put (off : Nat) : ∀ (ys : List Value) (k : Nat) (C : Array Value), off + k + ys.length ≤ C.size →
  ((ys.zipIdx k).foldl (fun cs (x : Value × Nat) => cs.setIfInBounds (off + x.2) x.1) C).size = C.size ∧
  ∀ (j : Nat), ((ys.zipIdx k).foldl (fun cs (x : Value × Nat) => cs.setIfInBounds (off + x.2) x.1) C)[j]? = if off + k ≤ j ∧ j < off + k + ys.length then ys[j - (off + k)]? else C[j]?
 | [], k, C, h => ⟨rfl, fun j => by
   have : ¬ (off + k ≤ j ∧ j < off + k + ([] : List Value).length) := by simp
   rw [if_neg this]; rfl⟩
 | y :: ys, k, C, h => by
  simp only [List.length_cons] at h
  obtain ⟨h1, h2⟩ := foldl_put off ys (k + 1) (C.setIfInBounds (off + k) y) (by simp; omega)
  simp only [List.zipIdx_cons, List.foldl_cons]
  refine ⟨by rw [h1]; simp, fun j => ?_⟩
  rw [h2 j]
  by_cases hj : off + (k + 1) ≤ j ∧ j < off + (k + 1) + ys.length
  ·rw [if_pos hj, if_pos (by simp; omega)]
   have : j - (off + k) = (j - (off + (k + 1))) + 1 := by omega
   rw [this, List.getElem?_cons_succ]
  ·rw [if_neg hj]
   by_cases e : j = off + k
   ·subst e
    rw [if_pos (by simp)]
    have : off + k < C.size := by omega
    simp [this]
   ·rw [if_neg (by simp; omega), Array.getElem?_setIfInBounds]
    have : off + k ≠ j := fun h => e h.symm
    simp [this]
theorem fillIn_ok {place place' : Nat → Option (Nat × Nat)} (hp : ∀ i z, place i = some z → place' i = some z) : ∀ {ps : List (Nat × V)} {rs : List (Nat × Value)} {cs cs' : List V} {C : Array Value},
  fillIn place cs ps = some cs' → ps.length = rs.length → (∀ (i : Nat) (x : Nat × V) (y : Nat × Value), ps[i]? = some x → rs[i]? = some y → x.1 = y.1 ∧ RepV v lc x.2 y.2) → RepL v cs C.toList →
  ∃ C', Instr.fill place' C rs = some C' ∧ RepL v cs' C'.toList
 | [], [], cs, cs', C, e, _, _, hC => by
  injection e with e; subst e
  exact ⟨C, rfl, hC⟩
 | [], _ :: _, _, _, _, _, hl, _, _ => absurd hl (by simp)
 | _ :: _, [], _, _, _, _, hl, _, _ => absurd hl (by simp)
 | (i, x) :: ps, (i', y) :: rs, cs, cs', C, e, hl, hr, hC => by
  obtain ⟨h1, h2⟩ := hr 0 (i, x) (i', y) rfl rfl
  simp only at h1 h2
  subst h1
  unfold fillIn at e
  cases hpl : place i with
  | none => rw [hpl] at e; cases e
  | some z =>
   obtain ⟨off, n⟩ := z
   rw [hpl] at e
   simp only at e
   split at e
   ·cases e
   ·rename_i hn
    split at e
    ·rename_i h3
     cases hput : put? cs off (cellsOf x) with
     | none => rw [hput] at e; cases e
     | some cs1 =>
      rw [hput] at e
      simp only at e
      have hA := (h2.toA h3).cellsOf (fun _ _ => trivial)
      have hlen : y.cells.size = n := by
       have := hA.1
       simp only [Array.length_toList] at this
       have : (cellsOf x).length = n := by omega
       omega
      have hle : off + y.cells.size ≤ C.size := by
       unfold put? at hput
       split at hput
       ·rename_i hh
        have := hC.1
        have := hA.1
        simp only [Array.length_toList] at *
        omega
       ·cases hput
      obtain ⟨q1, q2⟩ := foldl_put off y.cells.toList 0 C (by simpa using hle)
      have hrep := (put_rep hput hC hA q1 (fun j => by rw [q2 j])).1
      have hrest := fillIn_ok hp (ps := ps) (rs := rs) e (by simpa using hl) (fun k a b ha hb => hr (k + 1) a b (by simpa using ha) (by simpa using hb)) hrep
      obtain ⟨C', e1, e2⟩ := hrest
      refine ⟨C', ?_, e2⟩
      unfold Instr.fill
      rw [hp i _ hpl]
      simp only
      rw [if_neg (by simp [hlen]; omega)]
      rw [← e1]
      congr 1
      rw [← Array.foldl_toList, Array.toList_zipIdx]
    ·cases e
theorem parts_ok (h : Rl E v0 w0 g0 v lc s a w) : ∀ {ps : List (Nat × Operand)} {xs : List (Nat × V)}, s.parts E ps = some xs →
  xs.length = (ps.map fun x => (x.1, a.eval x.2)).length ∧ ∀ (i : Nat) (x : Nat × V) (y : Nat × Value), xs[i]? = some x → (ps.map fun x => (x.1, a.eval x.2))[i]? = some y → x.1 = y.1 ∧ RepV v lc x.2 y.2
 | [], xs, e => by
  injection e with e; subst e
  exact ⟨rfl, fun i x y hx => by simp at hx⟩
 | (k, p) :: ps, xs, e => by
  unfold St.parts at e
  cases hp : s.ev E p with
  | none => rw [hp] at e; cases e
  | some X =>
   cases hq : s.parts E ps with
   | none => rw [hp, hq] at e; cases e
   | some ys =>
    rw [hp, hq] at e
    injection e with e
    subst e
    obtain ⟨h1, h2⟩ := parts_ok h hq
    refine ⟨by simp [h1], fun i x y hx hy => ?_⟩
    cases i with
    | zero =>
     simp at hx hy
     subst hx hy
     exact ⟨rfl, ev_rep h.W h.F hp⟩
    | succ i =>
     simp only [List.getElem?_cons_succ, List.map_cons] at hx hy
     exact h2 i x y hx hy
theorem placesL_ok (w : World) : ∀ {l : List Field} {ps : List (Nat × Nat)}, placesL E l = some ps →
  (l.mapM fun f => do pure (f.offset, ← sizeOf f.type) : Sem (List (Nat × Nat))).run E.P w = .ok ps w
 | [], ps, e => by injection e with e; subst e; rfl
 | f :: l, ps, e => by
  unfold placesL at e
  cases h1 : sz E f.type with
  | none => rw [h1] at e; cases e
  | some n =>
   cases h2 : placesL E l with
   | none => rw [h1, h2] at e; cases e
   | some qs =>
    rw [h1, h2] at e
    injection e with e
    subst e
    rw [List.mapM_cons]
    simp only [Sem.run_bind, r_sz h1, Result.andThen_ok, Sem.run_pure, placesL_ok w h2]
theorem step_build (h : Rl E v0 w0 g0 v lc s a w) {t : TypeId} {parts : Array (Nat × Operand)} (ho : o.op = .build t parts) {x : V} {s' : St} (e : stepV E s o = some (x, s')) : OpOk E v0 w0 g0 v lc a w o x s' := by
 simp only [stepV, ho] at e
 split at e
 ·rename_i fs z ps h1 h2 h3
  cases hpl : placesL E fs.toList with
  | none => rw [hpl] at e; cases e
  | some pl =>
   rw [hpl] at e
   simp only at e
   cases hf : fillIn (fun i => pl[i]?) z ps with
   | none => rw [hf] at e; cases e
   | some cs =>
    rw [hf] at e
    injection e with e
    simp only [Prod.mk.injEq] at e
    obtain ⟨rfl, rfl⟩ := e
    obtain ⟨zv, q1, q2⟩ := r_zero (v := v) h2 w
    obtain ⟨q3, q4⟩ := parts_ok h h3
    obtain ⟨C', q5, q6⟩ := fillIn_ok (place' := fun i => pl.toArray[i]?) (fun i z hz => by simpa using hz) hf q3 q4 q2
    refine OpOk.pure h (y := .agg C') ?_ (.a ?_)
    ·have hm : (fs.mapM fun f => do pure (f.offset, ← sizeOf f.type) : Sem (Array (Nat × Nat))).run E.P w = .ok pl.toArray w := by
      rw [Array.mapM_eq_mapM_toList]
      rw [Sem.run_map, placesL_ok w hpl]
      rfl
     simp only [execOp, ho, Instr.build, Sem.run_bind, q1, Result.andThen_ok, run_underlying h1, hm]
     rw [Array.toList_map, q5]
     rfl
    ·have := RepA.agg q6
     simpa using this
 ·cases e
theorem chunks_get (n : Nat) : ∀ (k : Nat) (cs : List V) (i : Nat), (chunks n k cs)[i]? = if i < k then some ((cs.drop (i * n)).take n) else none
 | 0, cs, i => by simp [chunks]
 | k + 1, cs, i => by
  cases i with
  | zero => simp [chunks]
  | succ i =>
   rw [chunks, List.getElem?_cons_succ, chunks_get n k]
   by_cases h : i < k
   ·rw [if_pos h, if_pos (by omega), List.drop_drop]
    congr 3
    rw [Nat.add_mul, Nat.one_mul, Nat.add_comm]
   ·rw [if_neg h, if_neg (by omega)]
theorem chunks_length (n k : Nat) (cs : List V) : (chunks n k cs).length = k := by
 induction k generalizing cs with
 | zero => rfl
 | succ k ih => simp [chunks, ih]
theorem rows_in {cs : List V} {n k : Nat} {ys : List Value} (hC : RepL v cs ys) (hl : cs.length = k * n) :
  (∀ r, r ∈ chunks n k cs → r.length = n) ∧
  (∀ i j r x, (chunks n k cs)[i]? = some r → r[j]? = some x → ys[i * n + j]? = some (ys.getD (i * n + j) undef)) ∧
  (∀ i j r x, (chunks n k cs)[i]? = some r → r[j]? = some x → RepC v x (ys.getD (i * n + j) undef)) := by
 have key : ∀ i j r x, (chunks n k cs)[i]? = some r → r[j]? = some x → cs[i * n + j]? = some x := by
  intro i j r x hr hx
  rw [chunks_get] at hr
  split at hr
  ·injection hr with hr
   subst hr
   rw [List.getElem?_take] at hx
   split at hx
   ·rw [List.getElem?_drop] at hx; exact hx
   ·cases hx
  ·cases hr
 refine ⟨fun r hr => ?_, fun i j r x hr hx => ?_, fun i j r x hr hx => ?_⟩
 ·obtain ⟨i, hi⟩ := List.mem_iff_getElem?.1 hr
  rw [chunks_get] at hi
  split at hi
  ·rename_i hik
   injection hi with hi
   subst hi
   have : i * n + n ≤ k * n := by
    have : (i + 1) * n ≤ k * n := Nat.mul_le_mul_right n hik
    rw [Nat.add_mul, Nat.one_mul] at this
    exact this
   simp
   omega
  ·cases hi
 ·obtain ⟨y, hy, _⟩ := hC.getElem (key i j r x hr hx)
  simp [List.getD, hy]
 ·obtain ⟨y, hy, hr'⟩ := hC.getElem (key i j r x hr hx)
  simpa [List.getD, hy] using hr'
theorem flatten_replicate_get {α : Type} (z : List α) (n : Nat) (hz : z.length = n) (h0 : 0 < n) : ∀ (k i : Nat), (List.replicate k z).flatten[i]? = if i < k * n then z[i % n]? else none
 | 0, i => by simp
 | k + 1, i => by
  rw [List.replicate_succ, List.flatten_cons]
  by_cases hi : i < n
  ·rw [List.getElem?_append_left (by omega), Nat.mod_eq_of_lt hi, if_pos]
   have : 1 * n ≤ (k + 1) * n := Nat.mul_le_mul_right n (by omega)
   omega
  ·rw [List.getElem?_append_right (by omega), flatten_replicate_get z n hz h0 k, hz]
   have e1 : (i - n) % n = i % n := by
    conv => rhs; rw [show i = (i - n) + n by omega, Nat.add_mod_right]
   have e2 : (k + 1) * n = k * n + n := by rw [Nat.add_mul, Nat.one_mul]
   by_cases h2 : i < (k + 1) * n
   ·rw [if_pos (by omega), if_pos h2, e1]
   ·rw [if_neg (by omega), if_neg h2]
theorem zeros_rep {z : List V} {zs : Array Value} {n k : Nat} (hz : RepL v z zs.toList) (hn : z.length = n) (h0 : 0 < n) : RepL v (List.replicate k z).flatten ((Array.range (k * n)).map (zs[· % zs.size]!)).toList := by
 have hs : zs.size = n := by have := hz.1; simp only [Array.length_toList] at this; omega
 refine ⟨by simp [hn], fun i x y hx hy => ?_⟩
 rw [flatten_replicate_get z n hn h0] at hx
 split at hx
 ·rename_i hi
  have : y = zs[i % n]! := by
   simp [hi, hs] at hy
   exact hy.symm
  subst this
  have hlt : i % n < zs.size := by rw [hs]; exact Nat.mod_lt _ h0
  refine hz.2 (i % n) x _ hx ?_
  rw [Array.getElem?_toList, Array.getElem?_eq_getElem hlt]
  simp [getElem!_pos, hlt]
 ·cases hx
theorem step_buildSlice (B : Base v0 w0 g0) (h : Rl E v0 w0 g0 v lc s a w) {t : TypeId} {len : Nat} {parts : Array (Nat × Operand)} (ho : o.op = .buildSlice t len parts) {x : V} {s' : St} (e : stepV E s o = some (x, s')) : OpOk E v0 w0 g0 v lc a w o x s' := by
 simp only [stepV, ho] at e
 cases he : Vm.elemOf E t with
 | none => rw [he] at e; cases e
 | some el =>
  rw [he] at e
  simp only at e
  split at e
  ·rename_i n z ps h1 h2 h3
   split at e
   ·cases e
   ·rename_i hc
    have hc1 : n ≠ 0 := fun h => hc (.inl h)
    have hc2 : z.length = n := Classical.byContradiction fun h => hc (.inr (.inl h))
    have hc3 : len * n ≤ 2 ^ 24 := by
     rcases Nat.lt_or_ge (2 ^ 24) (len * n) with h | h
     ·exact absurd (.inr (.inr (.inl h))) hc
     ·exact h
    cases hf : fillIn (fun i => some (i * n, n)) (List.replicate len z).flatten ps with
    | none => rw [hf] at e; cases e
    | some cs =>
     rw [hf] at e
     simp only [Option.map_some] at e
     have hu : E.P.underlying t = some (.slice el) := by
      unfold Vm.elemOf at he
      split at he
      ·rename_i hh; injection he with he; subst he; exact hh
      ·cases he
     obtain ⟨zv, q1, q2⟩ := r_zero (v := v) h2 w
     obtain ⟨q3, q4⟩ := parts_ok h h3
     have hzs := zeros_rep (k := len) q2 hc2 (by omega)
     obtain ⟨C', q5, q6⟩ := fillIn_ok (place' := fun i => some (i * n, n)) (fun i z hz => hz) hf q3 q4 (C := (Array.range (len * n)).map (zv.cells[· % zv.cells.size]!)) hzs
     have hlen : cs.length = len * n := by
      have fl : ∀ {ps : List (Nat × V)} {cs cs' : List V}, fillIn (fun i => some (i * n, n)) cs ps = some cs' → cs'.length = cs.length := by
       intro ps
       induction ps with
       | nil => intro cs cs' e; injection e with e; subst e; rfl
       | cons p ps ih =>
        intro cs cs' e
        unfold fillIn at e
        simp only at e
        split at e
        ·cases e
        ·split at e
         ·split at e
          ·rename_i cells' hput
           rw [ih e]
           unfold put? at hput
           split at hput
           ·injection hput with hput; subst hput; simp; omega
           ·cases hput
          ·cases e
         ·cases e
      rw [fl hf]
      simp [hc2]
     have hrun : (execOp a.eval o).run E.P w = .ok (.value (.slice (some ⟨w.heap.size, 0, none⟩) len len)) { w with heap := w.heap.push (.cells C' el) } := by
      simp only [execOp, ho, Instr.buildSlice, Sem.run_bind, run_underlying hu, Result.andThen_ok, r_sz h1]
      rw [Sem.run_ite, if_neg (by omega)]
      by_cases hl0 : len * n = 0
      ·have : len = 0 := by
        rcases Nat.mul_eq_zero.1 hl0 with h | h
        ·exact h
        ·exact absurd h hc1
       subst this
       simp only [Nat.zero_mul, Sem.run_pure, Result.andThen_ok, if_true, Sem.run_bind]
       have e1 : ((Array.range 0).map fun x => (#[] : Array Value)[x % (#[] : Array Value).size]!) = (Array.range (0 * n)).map (zv.cells[· % zv.cells.size]!) := by simp
       rw [e1, Array.toList_map, q5]
       simp [newRow]
      ·rw [if_neg hl0]
       simp only [Sem.run_bind, Sem.run_pure, Result.andThen_ok, q1]
       rw [Array.toList_map, q5]
       simp [newRow]
     cases hbig : s.big o.dst with
     | true =>
      rw [hbig, if_pos rfl] at e
      injection e with e
      simp only [Prod.mk.injEq] at e
      obtain ⟨rfl, rfl⟩ := e
      have hn : v.nobj = s.g.objs.length := h.W.nobj
      obtain ⟨hx, hR⟩ := h.pushO B (.cells cs) (.cells C' el) C'.size (fun C2 e2 fr2 h => by cases h; rfl) (.cells (ds := []) (fun i hi hh => by simp at hh) (by rw [List.append_nil]; exact q6.ext (Ext.addObj v _ _)))
      have hrho : (v.addObj w.heap.size C'.size).rho s.g.objs.length = w.heap.size := by simp [Vw.addObj, upd, hn]
      have hosz : (v.addObj w.heap.size C'.size).osz s.g.objs.length = C'.size := by simp [Vw.addObj, upd, hn]
      refine ⟨_, _, _, lc, .slice (some ⟨w.heap.size, 0, none⟩) len len, hrun, .inl rfl, hx, fun _ _ _ h => h, hR, .a (.cell (.arr rfl (by simp [Vw.addObj, hn]) hrho.symm (fun _ => ⟨rfl, ?_⟩) (Nat.le_refl _) (Nat.le_refl _)))⟩
      rw [hosz]
      have := q6.1
      simp only [Array.length_toList] at this
      omega
     | false =>
      rw [hbig, if_neg (by simp)] at e
      injection e with e
      simp only [Prod.mk.injEq] at e
      obtain ⟨rfl, rfl⟩ := e
      obtain ⟨hx, hR⟩ := h.pushI B C' C' el (0, 0) (fun _ _ h => h)
      refine ⟨_, _, _, lc, .slice (some ⟨w.heap.size, 0, none⟩) len len, hrun, .inl rfl, hx, fun _ _ _ h => h, hR, .a (.cell ?_)⟩
      obtain ⟨r1, r2, r3⟩ := rows_in (q6.ext hx) hlen
      have hl : (chunks n len cs).length = len := chunks_length n len cs
      have := RepC.sl (v := v.addSg w.heap.size C') (rows := chunks n len cs) (a := ⟨w.heap.size, 0, none⟩) (cap := len) (n := n) (k := .exact) (fun i j => C'.toList.getD (i * n + j) undef) C' rfl (by omega) r1
       (fun _ => by simp [Vw.addSg, upd]) (fun i j r x hr hx => by have := r2 i j r x hr hx; simpa using this) r3 (fun _ => hl.symm) (fun t pos m hk => by cases hk)
      rw [hl] at this
      exact this
  ·cases e
end
end Go.Vm
set_option linter.unusedVariables false
namespace Go.Vm
open Go
section
variable {E : Env} {v0 : Vw} {w0 : World} {g0 : G} {v : Vw} {lc : Nat → Nat → Option Nat} {s : St} {a : Act} {w : World} {o : Oper}
theorem step_nilCheck (h : Rl E v0 w0 g0 v lc s a w) {p : Operand} (ho : o.op = .nilCheck p) {x : V} {s' : St} (e : stepV E s o = some (x, s')) : OpOk E v0 w0 g0 v lc a w o x s' := by
 simp only [stepV, ho] at e
 cases hp : s.ev E p with
 | none => rw [hp] at e; cases e
 | some X =>
  rw [hp] at e
  have hX := ev_rep h.W h.F hp
  have key : ∀ y, a.eval p = y → (∃ ad, y = .pointer (some ad)) ∨ (∃ f ys, y = .func (.func f) #[] ys) → (X, s) = (x, s') → OpOk E v0 w0 g0 v lc a w o x s' := by
   intro y hy hh e
   simp only [Prod.mk.injEq] at e
   obtain ⟨rfl, rfl⟩ := e
   refine OpOk.pure h (y := y) ?_ (by rw [← hy]; exact hX)
   rcases hh with ⟨ad, rfl⟩ | ⟨f, ys, rfl⟩
   ·simp [execOp, ho, hy]
   ·simp [execOp, ho, hy]
  simp only at e
  split at e
  ·injection e with e
   cases hX with
   | a hX => cases hX with | cell hX =>
    generalize hy : a.eval p = y at hX
    cases hX with | ptr => exact key _ hy (.inl ⟨_, rfl⟩) e
  ·injection e with e
   generalize hy : a.eval p = y at hX
   cases hX with
   | a hX => cases hX with | cell hX => cases hX
   | ref => exact key _ hy (.inl ⟨_, rfl⟩) e
  ·injection e with e
   generalize hy : a.eval p = y at hX
   cases hX with
   | a hX => cases hX with | cell hX => cases hX
   | loc => exact key _ hy (.inl ⟨_, rfl⟩) e
  ·injection e with e
   cases hX with
   | a hX => cases hX with | cell hX =>
    generalize hy : a.eval p = y at hX
    cases hX with | fn => exact key _ hy (.inr ⟨_, _, rfl⟩) e
  ·cases e
theorem evL_ok (h : Rl E v0 w0 g0 v lc s a w) : ∀ {ps : List Operand} {xs : List V}, evL E s ps = some xs →
  xs.length = (ps.map a.eval).length ∧ ∀ (i : Nat) (x : V) (y : Value), xs[i]? = some x → (ps.map a.eval)[i]? = some y → RepV v lc x y
 | [], xs, e => by injection e with e; subst e; exact ⟨rfl, fun i x y hx => by simp at hx⟩
 | p :: ps, xs, e => by
  unfold evL at e
  cases hp : s.ev E p with
  | none => rw [hp] at e; cases e
  | some X =>
   cases hq : evL E s ps with
   | none => rw [hp, hq] at e; cases e
   | some ys =>
    rw [hp, hq] at e
    injection e with e
    subst e
    obtain ⟨h1, h2⟩ := evL_ok h hq
    refine ⟨by simp [h1], fun i x y hx hy => ?_⟩
    cases i with
    | zero => simp at hx hy; subst hx hy; exact ev_rep h.W h.F hp
    | succ i =>
     simp only [List.getElem?_cons_succ, List.map_cons] at hx hy
     exact h2 i x y hx hy
theorem RepV.toC {x : V} {y : Value} (h : RepV v lc x y) (h1 : one x = true) : RepC v x y := by
 cases h with
 | a h => cases h with
  | cell h => exact h
  | agg => simp [one] at h1
 | ref => simp [one] at h1
 | loc => simp [one] at h1
 | tup => simp [one] at h1
 | undef => simp [one] at h1
theorem step_makeFunc (h : Rl E v0 w0 g0 v lc s a w) {f : Fn} {first caps : Array Operand} (ho : o.op = .makeFunc f first caps) {x : V} {s' : St} (e : stepV E s o = some (x, s')) : OpOk E v0 w0 g0 v lc a w o x s' := by
 cases f with
 | func f =>
  simp only [stepV, ho] at e
  split at e
  ·rename_i h0
   cases hp : evL E s caps.toList with
   | none => rw [hp] at e; cases e
   | some vs =>
    rw [hp] at e
    simp only at e
    split at e
    ·rename_i h1
     injection e with e
     simp only [Prod.mk.injEq] at e
     obtain ⟨rfl, rfl⟩ := e
     obtain ⟨q1, q2⟩ := evL_ok h hp
     have hf0 : first = #[] := Array.eq_empty_of_size_eq_zero h0
     refine OpOk.pure h (y := .func (.func f) #[] (caps.map a.eval)) (by simp [execOp, ho, Instr.makeFunc, hf0]) (.a (.cell (.fn (by simpa using q1) (fun i x y hx hy => ?_))))
     refine (q2 i x y hx (by simpa using hy)).toC ?_
     exact List.all_eq_true.1 h1 x (List.mem_of_getElem? hx)
    ·cases e
  ·cases e
 | _ => simp [stepV, ho] at e
theorem step_makeMap (B : Base v0 w0 g0) (h : Rl E v0 w0 g0 v lc s a w) {t : TypeId} {r : Option Operand} (ho : o.op = .makeMap t r) {x : V} {s' : St} (e : stepV E s o = some (x, s')) : OpOk E v0 w0 g0 v lc a w o x s' := by
 cases r with
 | none =>
  simp only [stepV, ho] at e
  injection e with e
  simp only [Prod.mk.injEq] at e
  obtain ⟨rfl, rfl⟩ := e
  obtain ⟨hx, hR⟩ := h.pushO B (.map [] 0) (.map #[] 0) 0 (fun C e fr h => by cases h) (.map rfl (fun i x m hx => by simp at hx))
  have hn : v.nobj = s.g.objs.length := h.W.nobj
  refine ⟨_, _, _, lc, .map (some w.heap.size), ?_, .inl rfl, hx, fun _ _ _ h => h, hR, .a (.cell ?_)⟩
  ·simp [execOp, ho, Instr.makeMap]
  ·have : (v.addObj w.heap.size).rho s.g.objs.length = w.heap.size := by simp [Vw.addObj, upd, hn]
   have r := RepC.map (v := v.addObj w.heap.size) (id := s.g.objs.length) (by simp [Vw.addObj, hn])
   rw [this] at r
   exact r
 | some r => simp [stepV, ho] at e
theorem elemOf_ok {t el : TypeId} (he : Vm.elemOf E t = some el) : E.P.underlying t = some (.slice el) := by
 unfold Vm.elemOf at he
 split at he
 ·rename_i hh; injection he with he; subst he; exact hh
 ·cases he
theorem wrap_i64 {n : Int} (h0 : 0 ≤ n) (h1 : n ≤ 2 ^ 48) : IntKind.i64.wrap n = n := by
 have e : n % (2 ^ IntKind.i64.bits : Int) = n := Int.emod_eq_of_lt h0 (by show n < 2 ^ 64; omega)
 unfold IntKind.wrap
 simp only [e]
 rw [if_neg]
 simp only [Bool.and_eq_true, decide_eq_true_eq, not_and]
 intro _ h
 have : (2 ^ (64 - 1) : Int) ≤ n := h
 omega
theorem step_makeSlice (B : Base v0 w0 g0) (h : Rl E v0 w0 g0 v lc s a w) {t : TypeId} {l c : Operand} (ho : o.op = .makeSlice t l c) {x : V} {s' : St} (e : stepV E s o = some (x, s')) : OpOk E v0 w0 g0 v lc a w o x s' := by
 simp only [stepV, ho] at e
 split at e
 ·rename_i el l' c' h1 h2 h3
  split at e
  ·rename_i i z h4 h5
   split at e
   ·cases e
   ·rename_i hc
    injection e with e
    simp only [Prod.mk.injEq] at e
    obtain ⟨rfl, rfl⟩ := e
    have c1 : i.size ≠ 0 := fun h => hc (.inl h)
    have c2 : z.length = i.size := Classical.byContradiction fun h => hc (.inr (.inl h))
    have c3 : 0 ≤ l' := by
     rcases Int.lt_or_le l' 0 with h | h
     ·exact absurd (.inr (.inr (.inl h))) hc
     ·exact h
    have c4 : l' ≤ c' := by
     rcases Int.lt_or_le c' l' with h | h
     ·exact absurd (.inr (.inr (.inr (.inl h)))) hc
     ·exact h
    have c5 : (i.bytes : Int) * c' ≤ 2 ^ 48 := by
     rcases Int.lt_or_le (2 ^ 48) ((i.bytes : Int) * c') with h | h
     ·exact absurd (.inr (.inr (.inr (.inr (.inl h))))) hc
     ·exact h
    have c6 : c' ≤ 2 ^ 48 := by
     rcases Int.lt_or_le (2 ^ 48) c' with h | h
     ·exact absurd (.inr (.inr (.inr (.inr (.inr (.inl h)))))) hc
     ·exact h
    obtain ⟨zv, q1, q2⟩ := r_zero (v := v) h5 w
    have hu := elemOf_ok h1
    have hl := RepA.int_inv (ev_rep h.W h.F h2)
    have hcc := RepA.int_inv (ev_rep h.W h.F h3)
    have hz := zeros_rep (k := c'.toNat) q2 c2 (by omega)
    obtain ⟨hx, hR⟩ := h.pushO B (.cells (List.replicate c'.toNat z).flatten) (.cells ((Array.range (c'.toNat * i.size)).map (zv.cells[· % zv.cells.size]!)) el) (c'.toNat * i.size) (fun C e fr h => by cases h; simp)
     (.cells (ds := []) (fun j hj hh => by simp at hh) (by rw [List.append_nil]; exact hz.ext (Ext.addObj v _ _)))
    have hn : v.nobj = s.g.objs.length := h.W.nobj
    have hrho : (v.addObj w.heap.size (c'.toNat * i.size)).rho s.g.objs.length = w.heap.size := by simp [Vw.addObj, upd, hn]
    have hosz : (v.addObj w.heap.size (c'.toNat * i.size)).osz s.g.objs.length = c'.toNat * i.size := by simp [Vw.addObj, upd, hn]
    refine ⟨_, _, _, lc, .slice (some ⟨w.heap.size, 0, none⟩) l'.toNat c'.toNat, ?_, .inl rfl, hx, fun _ _ _ h => h, hR, .a (.cell (.arr rfl (by simp [Vw.addObj, hn]) hrho.symm (fun _ => ⟨rfl, by rw [hosz]; omega⟩) (by omega) (Nat.le_refl _)))⟩
    have w1 := wrap_i64 (n := l') c3 (by omega)
    have w2 := wrap_i64 (n := c') (by omega) c6
    simp only [execOp, ho, Instr.makeSlice, Sem.run_bind, run_underlying hu, Result.andThen_ok, hl, hcc, asInt, asIntOf, Sem.run_pure, r_info h4, w1, w2]
    have t1 : (decide (c' < 0) || decide ((i.bytes : Int) * c' > 2 ^ 48)) = false := by
     simp only [Bool.or_eq_false_iff, decide_eq_false_iff_not]
     exact ⟨by omega, by omega⟩
    have t2 : decide (l' < 0) = false := by simp; omega
    have t3 : decide (l' > c') = false := by simp; omega
    simp only [t1, t2, t3, Bool.or_self, Bool.false_eq_true, if_false, Sem.run_bind, run_askRoom, Result.andThen_ok, r_size h4]
    by_cases h0 : c'.toNat * i.size = 0
    ·rw [if_pos h0]
     have hc0 : c'.toNat = 0 := by
      rcases Nat.mul_eq_zero.1 h0 with h | h
      ·exact h
      ·exact absurd h c1
     simp [newRow, hc0, show Array.range 0 = #[] from rfl]
    ·rw [if_neg h0]
     simp [newRow, q1]
  ·cases e
 ·cases e
theorem index_ref {rows : List (List V)} {k : SK} {y : Value} {i n : Nat} {r : List V} (h : RepC v (.sl rows k) y) (hr : rows[i]? = some r) (hn : r.length = n) :
  ∃ (ad : Addr) (cap : Nat), y = .slice (some ad) rows.length cap ∧ RepV v lc (.ref r) (.pointer (some (ad.add (i * n)))) := by
 cases h with
 | @sl _ ad cap m _ f cs h1 h2 h3 h4 h5 h6 h7 h8 =>
  have hm : m = n := by rw [← hn]; exact (h3 r (List.mem_of_getElem? hr)).symm
  subst hm
  refine ⟨ad, cap, rfl, ?_⟩
  have hne : rows ≠ [] := by rintro rfl; simp at hr
  have hk : ad = ⟨ad.block, ad.off, none⟩ := by cases ad; simp at h1; simp [h1]
  have had : ad.add (i * m) = ⟨ad.block, ad.off + i * m, none⟩ := by rw [hk, add_addr]
  rw [had]
  refine .ref ((List.range r.length).map fun j => f i j) cs rfl (fun _ => h4 hne) ⟨by simp, fun j x z hx hz => ?_⟩ (fun j z hz => ?_)
  ·have hj := (List.getElem?_eq_some_iff.1 hx).1
   simp [hj] at hz
   subst hz
   exact h6 i j r x hr hx
  ·have hj : j < r.length := by
    have := (List.getElem?_eq_some_iff.1 hz).1
    simpa using this
   simp [hj] at hz
   subst hz
   have := h5 i j r _ hr (List.getElem?_eq_getElem hj)
   rw [← this, ← Nat.add_assoc]
theorem RepP.toSl {rows : List (List PV)} {y : Value} (h : RepP v.sg (.sl rows) y) : ∃ (ad : Addr) (cap : Nat), y = .slice (some ad) rows.length cap ∧
  ∀ i n r, rows[i]? = some r → r.length = n → RepV v lc (.ref (r.map .p)) (.pointer (some (ad.add (i * n)))) := by
 cases h with
 | @sl _ ad cap m f cs h1 h2 h3 h4 h5 h6 =>
  refine ⟨ad, cap, rfl, fun i n r hr hn => ?_⟩
  have hm : m = n := by rw [← hn]; exact (h3 r (List.mem_of_getElem? hr)).symm
  subst hm
  have hne : rows ≠ [] := by rintro rfl; simp at hr
  have h1 := h1 hne
  have hk : ad = ⟨ad.block, ad.off, none⟩ := by cases ad; simp at h1; simp [h1]
  have had : ad.add (i * m) = ⟨ad.block, ad.off + i * m, none⟩ := by rw [hk, add_addr]
  rw [had]
  refine .ref ((List.range r.length).map fun j => f i j) cs rfl (fun _ => h4 hne) ⟨by simp, fun j x z hx hz => ?_⟩ (fun j z hz => ?_)
  ·rw [List.getElem?_map] at hx
   cases hj : r[j]? with
   | none => rw [hj] at hx; cases hx
   | some q =>
    rw [hj] at hx
    injection hx with hx
    subst hx
    have hlt := (List.getElem?_eq_some_iff.1 hj).1
    simp [hlt] at hz
    subst hz
    exact .p (h6 i j r q hr hj)
  ·have hj : j < r.length := by
    have := (List.getElem?_eq_some_iff.1 hz).1
    simpa using this
   simp [hj] at hz
   subst hz
   have := h5 i j r _ hr (List.getElem?_eq_getElem hj)
   rw [← this, ← Nat.add_assoc]
theorem RepV.slInv {rows : List (List V)} {k : SK} {y : Value} (h : RepV v lc (.sl rows k) y) : RepC v (.sl rows k) y := by
 cases h with | a h => cases h with | cell h => exact h
theorem RepV.pInv {x : PV} {y : Value} (h : RepV v lc (.p x) y) : RepP v.sg x y := by
 cases h with | a h => cases h with | cell h => cases h with | p h => exact h
theorem step_indexAddr (h : Rl E v0 w0 g0 v lc s a w) {t : TypeId} {p q : Operand} (ho : o.op = .indexAddr t p q) {x : V} {s' : St} (e : stepV E s o = some (x, s')) : OpOk E v0 w0 g0 v lc a w o x s' := by
 simp only [stepV, ho] at e
 split at e
 ·rename_i X k j hp hq
  split at e
  ·cases e
  ·rename_i hj0
   have hJ := RepA.int_inv (ev_rep h.W h.F hq)
   have hX := ev_rep h.W h.F hp
   split at e
   ·rename_i el hu
    cases hn : sz E el with
    | none => rw [hn] at e; cases e
    | some n =>
     rw [hn] at e
     simp only at e
     split at e
     ·cases e
     ·rename_i hn0
      split at e
      ·rename_i rows
       cases hr : rows[j.toNat]? with
       | none => rw [hr] at e; cases e
       | some r =>
        rw [hr] at e
        simp only at e
        split at e
        ·rename_i hl
         injection e with e
         simp only [Prod.mk.injEq] at e
         obtain ⟨rfl, rfl⟩ := e
         obtain ⟨ad, cap, h1, h2⟩ := RepP.toSl (lc := lc) hX.pInv
         have hlt := (List.getElem?_eq_some_iff.1 hr).1
         refine OpOk.pure h ?_ (h2 _ _ _ hr hl)
         simp only [execOp, ho, Instr.indexAt, hJ, asIntOf, Sem.run_bind, Sem.run_pure, Result.andThen_ok, run_underlying hu, h1]
         rw [if_pos ⟨by omega, by omega⟩]
         simp [r_sz hn]
        ·cases e
      ·rename_i rows k'
       cases hr : rows[j.toNat]? with
       | none => rw [hr] at e; cases e
       | some r =>
        rw [hr] at e
        simp only at e
        split at e
        ·rename_i hl
         injection e with e
         simp only [Prod.mk.injEq] at e
         obtain ⟨rfl, rfl⟩ := e
         obtain ⟨ad, cap, h1, h2⟩ := index_ref (lc := lc) hX.slInv hr hl
         have hlt := (List.getElem?_eq_some_iff.1 hr).1
         refine OpOk.pure h ?_ h2
         simp only [execOp, ho, Instr.indexAt, hJ, asIntOf, Sem.run_bind, Sem.run_pure, Result.andThen_ok, run_underlying hu, h1]
         rw [if_pos ⟨by omega, by omega⟩]
         simp [r_sz hn]
        ·cases e
      ·rename_i id off len cap m
       split at e
       ·rename_i hltm
        obtain ⟨hlt, hmn⟩ := hltm
        injection e with e
        simp only [Prod.mk.injEq] at e
        obtain ⟨rfl, rfl⟩ := e
        cases hX with
        | a hX => cases hX with | cell hX =>
         generalize hy : a.eval p = y at hX
         cases hX with
         | @arr _ _ _ _ _ c ad g1 g2 g3 g4 g5 g6 =>
          have hk : ad = ⟨v.rho id, off, none⟩ := by
           have := (g4 (by omega)).1
           cases ad; simp at g1 g3 this; simp [g1, g3, this]
          refine OpOk.pure h (y := .pointer (some ⟨v.rho id, off + j.toNat * n, none⟩)) ?_ (.a (.cell (.ptr g2)))
          simp only [execOp, ho, Instr.indexAt, hJ, asIntOf, Sem.run_bind, Sem.run_pure, Result.andThen_ok, run_underlying hu, hy]
          rw [if_pos ⟨by omega, hlt⟩]
          simp [r_sz hn, hk, add_addr]
       ·cases e
      ·cases e
   ·rename_i len el hu
    cases hn : sz E el with
    | none => rw [hn] at e; cases e
    | some n =>
     rw [hn] at e
     simp only at e
     split at e
     ·rename_i hlt
      cases hd : addTo X (j.toNat * n) with
      | none => rw [hd] at e; cases e
      | some A' =>
       rw [hd] at e
       injection e with e
       simp only [Prod.mk.injEq] at e
       obtain ⟨rfl, rfl⟩ := e
       obtain ⟨ad, h7, h8⟩ := addTo_ok hd hX
       refine OpOk.pure h ?_ h8
       simp only [execOp, ho, Instr.indexAt, hJ, asIntOf, Sem.run_bind, Sem.run_pure, Result.andThen_ok, run_underlying hu, h7, Instr.sureAddr]
       rw [if_pos ⟨by omega, hlt⟩]
       simp [r_sz hn]
     ·cases e
   ·cases e
 ·cases e
theorem step_index (h : Rl E v0 w0 g0 v lc s a w) {t : TypeId} {p q : Operand} (ho : o.op = .index t p q) {x : V} {s' : St} (e : stepV E s o = some (x, s')) : OpOk E v0 w0 g0 v lc a w o x s' := by
 simp only [stepV, ho] at e
 split at e
 ·rename_i b k j hp hq
  split at e
  ·rename_i hu
   split at e
   ·rename_i h0
    cases hb : b[j.toNat]? with
    | none => rw [hb] at e; cases e
    | some c =>
     rw [hb] at e
     injection e with e
     simp only [Prod.mk.injEq] at e
     obtain ⟨rfl, rfl⟩ := e
     have hJ := RepA.int_inv (ev_rep h.W h.F hq)
     have hX := RepA.str_inv (ev_rep h.W h.F hp)
     refine OpOk.pure h (y := .int .u8 c.toNat) ?_ (RepV.p_of .int)
     simp only [execOp, ho, Instr.index, hJ, asIntOf, Sem.run_bind, Sem.run_pure, Result.andThen_ok, run_underlying hu, hX, if_pos h0, hb]
   ·cases e
  ·cases e
 ·cases e
theorem step_extract (h : Rl E v0 w0 g0 v lc s a w) {p : Operand} {i : Nat} (ho : o.op = .extract p i) {x : V} {s' : St} (e : stepV E s o = some (x, s')) : OpOk E v0 w0 g0 v lc a w o x s' := by
 simp only [stepV, ho] at e
 split at e
 ·rename_i vs hp
  cases hi : vs[i]? with
  | none => rw [hi] at e; cases e
  | some z =>
   rw [hi] at e
   injection e with e
   simp only [Prod.mk.injEq] at e
   obtain ⟨rfl, rfl⟩ := e
   have hX := ev_rep h.W h.F hp
   generalize hy : a.eval p = y at hX
   cases hX with
   | a hX => cases hX with | cell hX => cases hX
   | @tup _ ys h1 h2 =>
    have hlt := (List.getElem?_eq_some_iff.1 hi).1
    have hyi : ys[i]? = some (ys[i]'(by omega)) := List.getElem?_eq_getElem _
    refine OpOk.pure h (y := ys[i]'(by omega)) ?_ (.a (h2 i _ _ hi hyi))
    simp only [execOp, ho, hy, Instr.extract, List.getElem?_toArray, hyi]
    rfl
 ·cases e
end
end Go.Vm
