/- Part 10 of the texts that the claim leans on: a judgement on the program over plain values, its soundness, and contracts of functions. -/
import Derived.Test.YtmknnanbmkmnjaaGreatDoorV9
import Derived.Laws.Strings
set_option maxRecDepth 100000
namespace Go.Vm
open Go Go.Proofs
theorem mixed : En.P.follows .mixedOrders = true := by kernel_rfl
theorem und3 : En.P.underlying 3 = some (.int .i64) := Tryz.underlying3
theorem isag3 : isag En 3 = some false := by kernel_rfl
theorem sz3 : sz En 3 = some 1 := by kernel_rfl
theorem zero3 : zeroOf En 3 = some [.p (.int .i64 0)] := by kernel_rfl
theorem inf3 : (En.P.info? 3).map (fun i => (i.size, i.bytes)) = some (1, 8) := by kernel_rfl
theorem isag4 : isag En 4 = some false := by kernel_rfl
theorem sz4 : sz En 4 = some 1 := by kernel_rfl
theorem zero4 : zeroOf En 4 = some [.p (.bool false)] := by kernel_rfl
theorem zv4 : zeroV En 4 = some (.p (.bool false)) := by kernel_rfl
theorem inf4 : (En.P.info? 4).map (fun i => (i.size, i.bytes)) = some (1, 1) := by kernel_rfl
theorem und9 : En.P.underlying 9 = some .string := Tryz.underlying9
theorem isag9 : isag En 9 = some false := by kernel_rfl
theorem sz9 : sz En 9 = some 1 := by kernel_rfl
theorem und22 : En.P.underlying 22 = some (.slice 34) := Tryz.underlying22
theorem isag22 : isag En 22 = some false := by kernel_rfl
theorem isag24 : isag En 24 = some true := by kernel_rfl
theorem sz24 : sz En 24 = some 2 := by kernel_rfl
theorem fld24_0 : fieldOf En 24 0 = some (0, 1, false) := by kernel_rfl
theorem fld24_1 : fieldOf En 24 1 = some (1, 1, false) := by kernel_rfl
theorem und27 : En.P.underlying 27 = some (.slice 3) := Tryz.underlying27
theorem el27 : elemOf En 27 = some 3 := by kernel_rfl
theorem isag27 : isag En 27 = some false := by kernel_rfl
theorem sz27 : sz En 27 = some 1 := by kernel_rfl
theorem und31 : En.P.underlying 31 = some (.slice 4) := Tryz.underlying31
theorem el31 : elemOf En 31 = some 4 := by kernel_rfl
theorem und32 : En.P.underlying 32 = some (.slice 37) := Tryz.underlying32
theorem el32 : elemOf En 32 = some 37 := by kernel_rfl
theorem isag32 : isag En 32 = some false := by kernel_rfl
theorem isag34 : isag En 34 = some true := by kernel_rfl
theorem sz34 : sz En 34 = some 3 := by kernel_rfl
theorem zero34 : zeroOf En 34 = some [.p (.bool false), .p .nilsl, .p .nilsl] := by kernel_rfl
theorem fld34_0 : fieldOf En 34 0 = some (0, 1, false) := by kernel_rfl
theorem fld34_1 : fieldOf En 34 1 = some (1, 1, false) := by kernel_rfl
theorem fld34_2 : fieldOf En 34 2 = some (2, 1, false) := by kernel_rfl
theorem und35 : En.P.underlying 35 = some (.slice 9) := Tryz.underlying35
theorem isag35 : isag En 35 = some false := by kernel_rfl
theorem isag37 : isag En 37 = some true := by kernel_rfl
theorem sz37 : sz En 37 = some 4 := by kernel_rfl
theorem zero37 : zeroOf En 37 = some [.p (.int .i64 0), .p .nilsl, .p .nilsl, .p (.bool false)] := by kernel_rfl
theorem fld37_0 : fieldOf En 37 0 = some (0, 1, false) := by kernel_rfl
theorem fld37_1 : fieldOf En 37 1 = some (1, 1, false) := by kernel_rfl
theorem fld37_2 : fieldOf En 37 2 = some (2, 1, false) := by kernel_rfl
theorem fld37_3 : fieldOf En 37 3 = some (3, 1, false) := by kernel_rfl
theorem isag40 : isag En 40 = some true := by kernel_rfl
theorem sz40 : sz En 40 = some 2 := by kernel_rfl
theorem zero40 : zeroOf En 40 = some [.p .nilsl, .p (.int .i64 0)] := by kernel_rfl
theorem fld40_0 : fieldOf En 40 0 = some (0, 1, false) := by kernel_rfl
theorem fld40_1 : fieldOf En 40 1 = some (1, 1, false) := by kernel_rfl
theorem und71 : En.P.underlying 71 = some (.map 3 4) := Tryz.underlying71
theorem isag75 : isag En 75 = some false := by kernel_rfl
theorem isag150 : isag En 150 = some true := by kernel_rfl
theorem sz150 : sz En 150 = some 6 := by kernel_rfl
theorem zero150 : zeroOf En 150 = some [.p (.int .i64 0), .p (.int .i64 0), .p (.str ⟨#[]⟩), .p .nilsl, .p .nilsl, .p (.bool false)] := by kernel_rfl
theorem inf150 : (En.P.info? 150).map (fun i => (i.size, i.bytes)) = some (6, 88) := by kernel_rfl
theorem fld150_0 : fieldOf En 150 0 = some (0, 1, false) := by kernel_rfl
theorem fld150_2 : fieldOf En 150 2 = some (2, 1, false) := by kernel_rfl
theorem fld150_3 : fieldOf En 150 3 = some (3, 1, false) := by kernel_rfl
theorem fld150_4 : fieldOf En 150 4 = some (4, 1, false) := by kernel_rfl
theorem fld150_5 : fieldOf En 150 5 = some (5, 1, false) := by kernel_rfl
theorem isag153 : isag En 153 = some true := by kernel_rfl
theorem sz153 : sz En 153 = some 8 := by kernel_rfl
theorem zero153 : zeroOf En 153 = some [.p (.int .i64 0), .p (.int .i64 0), .p (.str ⟨#[]⟩), .p (.int .i64 0), .p (.int .u64 0), .p .nilsl, .p .nilsl, .p .nilsl] := by kernel_rfl
theorem fld153_6 : fieldOf En 153 6 = some (6, 1, false) := by kernel_rfl
theorem fld153_7 : fieldOf En 153 7 = some (7, 1, false) := by kernel_rfl
theorem und154 : En.P.underlying 154 = some (.slice 153) := Tryz.underlying154
theorem el154 : elemOf En 154 = some 153 := by kernel_rfl
theorem isag154 : isag En 154 = some false := by kernel_rfl
theorem und155 : En.P.underlying 155 = some (.slice 150) := Tryz.underlying155
theorem el155 : elemOf En 155 = some 150 := by kernel_rfl
theorem isag155 : isag En 155 = some false := by kernel_rfl
theorem sz155 : sz En 155 = some 1 := by kernel_rfl
theorem und156 : En.P.underlying 156 = some (.slice 183) := Tryz.underlying156
theorem isag156 : isag En 156 = some false := by kernel_rfl
theorem isag158 : isag En 158 = some true := by kernel_rfl
theorem sz158 : sz En 158 = some 3 := by kernel_rfl
theorem zero158 : zeroOf En 158 = some [.p .nilsl, .p .nilsl, .p .nilsl] := by kernel_rfl
theorem fld158_0 : fieldOf En 158 0 = some (0, 1, false) := by kernel_rfl
theorem fld158_1 : fieldOf En 158 1 = some (1, 1, false) := by kernel_rfl
theorem fld158_2 : fieldOf En 158 2 = some (2, 1, false) := by kernel_rfl
theorem und178 : En.P.underlying 178 = some (.slice 3) := Tryz.underlying178
theorem el178 : elemOf En 178 = some 3 := by kernel_rfl
theorem isag183 : isag En 183 = some true := by kernel_rfl
theorem sz183 : sz En 183 = some 3 := by kernel_rfl
theorem zero183 : zeroOf En 183 = some [.p (.str ⟨#[]⟩), .p (.int .i64 0), .p (.int .i64 0)] := by kernel_rfl
theorem fld183_0 : fieldOf En 183 0 = some (0, 1, false) := by kernel_rfl
theorem fld183_1 : fieldOf En 183 1 = some (1, 1, false) := by kernel_rfl
theorem und231 : En.P.underlying 231 = some (.map 9 4) := Tryz.underlying231
theorem okf9 : okFn En 9 = true := by kernel_rfl
theorem okf10 : okFn En 10 = true := by kernel_rfl
theorem okf11 : okFn En 11 = true := by kernel_rfl
theorem okf12 : okFn En 12 = true := by kernel_rfl
theorem okf13 : okFn En 13 = true := by kernel_rfl
theorem okf14 : okFn En 14 = true := by kernel_rfl
theorem okf15 : okFn En 15 = true := by kernel_rfl
theorem okf17 : okFn En 17 = true := by kernel_rfl
theorem okf36 : okFn En 36 = true := by kernel_rfl
theorem okf37 : okFn En 37 = true := by kernel_rfl
theorem okf39 : okFn En 39 = true := by kernel_rfl
theorem okf40 : okFn En 40 = true := by kernel_rfl
theorem okf41 : okFn En 41 = true := by kernel_rfl
theorem okf64 : okFn En 64 = true := by kernel_rfl
theorem okf65 : okFn En 65 = true := by kernel_rfl
theorem okf66 : okFn En 66 = true := by kernel_rfl
theorem okf67 : okFn En 67 = true := by kernel_rfl
theorem okf96 : okFn En 96 = true := by kernel_rfl
theorem okf97 : okFn En 97 = true := by kernel_rfl
theorem okf98 : okFn En 98 = true := by kernel_rfl
theorem okf122 : okFn En 122 = true := by kernel_rfl
theorem okf123 : okFn En 123 = true := by kernel_rfl
theorem okf124 : okFn En 124 = true := by kernel_rfl
theorem okf125 : okFn En 125 = true := by kernel_rfl
theorem okf126 : okFn En 126 = true := by kernel_rfl
theorem okf127 : okFn En 127 = true := by kernel_rfl
theorem okf145 : okFn En 145 = true := by kernel_rfl
theorem okf147 : okFn En 147 = true := by kernel_rfl
theorem okf148 : okFn En 148 = true := by kernel_rfl
theorem okf149 : okFn En 149 = true := by kernel_rfl
theorem okf151 : okFn En 151 = true := by kernel_rfl
theorem okf167 : okFn En 167 = true := by kernel_rfl
theorem okf172 : okFn En 172 = true := by kernel_rfl
theorem okf173 : okFn En 173 = true := by kernel_rfl
theorem okf174 : okFn En 174 = true := by kernel_rfl
theorem okf175 : okFn En 175 = true := by kernel_rfl
theorem okf177 : okFn En 177 = true := by kernel_rfl
theorem okf178 : okFn En 178 = true := by kernel_rfl
theorem okf185 : okFn En 185 = true := by kernel_rfl
theorem okf188 : okFn En 188 = true := by kernel_rfl
theorem okf192 : okFn En 192 = true := by kernel_rfl
theorem okf193 : okFn En 193 = true := by kernel_rfl
end Go.Vm
set_option linter.unusedVariables false
namespace Go.Vm
open Go
def G.ext (g : G) (os : List Ob) (ts : List Nat) : G := ⟨g.objs ++ os, g.toks ++ ts, g.wo, g.wt⟩
theorem G.ext_nil (g : G) : g.ext [] [] = g := by cases g; simp [G.ext]
theorem ext_obj {g : G} {os : List Ob} {ts : List Nat} {i : Nat} : (g.ext os ts).objs[g.objs.length + i]? = os[i]? := by
  simp [G.ext, List.getElem?_append_right]
theorem ext_tok {g : G} {os : List Ob} {ts : List Nat} {i : Nat} : (g.ext os ts).toks[g.toks.length + i]? = ts[i]? := by
  simp [G.ext, List.getElem?_append_right]
theorem ext_new {g : G} {os : List Ob} {ts : List Nat} {o : Ob} : (g.ext os ts).newObj o = g.ext (os ++ [o]) ts := by
  simp [G.ext, G.newObj]
theorem ext_len {g : G} {os : List Ob} {ts : List Nat} : (g.ext os ts).objs.length = g.objs.length + os.length := by simp [G.ext]
theorem ext_set {g : G} {os : List Ob} {ts : List Nat} {i : Nat} {o : Ob} (hw : g.wo = g.objs.length) : (g.ext os ts).setObj (g.objs.length + i) o = g.ext (os.set i o) ts := by
  simp only [G.ext, G.setObj, hw]
  congr 1
  · rw [List.set_append_right _ _ (by omega)]; simp
  · omega
section
variable {E : Env} {qt : Bool} {ops : Array Oper} {l : List Oper} {K : St → Prop}
variable {nt : Nat} {b : Nat → V} {L : List (Nat × V)} {rb : Nat → Option (Nat × List V)} {R : List (Nat × (Nat × List V))} {esc : Nat → Bool} {g : G} {os : List Ob} {ts : List Nat}
variable {d : Nat} {ty : TypeId} {pos : String} {after : Array Edge} {gd : Option (Nat × Bool)} {op : Op}
theorem x_op {s1 : St} {v : V} {g' : G} (h : wX ops nt L gd = some true) (hd : Nat.blt d nt = true) (hc : callOf E (Sx nt b L rb R esc g) ⟨some d, op, ty, pos, after, gd⟩ = none)
    (hs : stepV E (Sx nt b L rb R esc g) ⟨some d, op, ty, pos, after, gd⟩ = some (v, Sx nt b L rb R esc g')) (k : wpL E qt ops l (Sx nt b ((d, v) :: L) rb R esc g') K) :
    wpL E qt ops (⟨some d, op, ty, pos, after, gd⟩ :: l) (Sx nt b L rb R esc g) K :=
  wpl_op (wX_ok h) (blt hd) hc hs (by rw [ofL_upd]; exact k)
theorem x_op0 {v : V} {g' : G} (h : wX ops nt L gd = some true) (hc : callOf E (Sx nt b L rb R esc g) ⟨none, op, ty, pos, after, gd⟩ = none)
    (hs : stepV E (Sx nt b L rb R esc g) ⟨none, op, ty, pos, after, gd⟩ = some (v, Sx nt b L rb R esc g')) (k : wpL E qt ops l (Sx nt b L rb R esc g') K) :
    wpL E qt ops (⟨none, op, ty, pos, after, gd⟩ :: l) (Sx nt b L rb R esc g) K :=
  wpl_op0 (wX_ok h) hc hs k
theorem x_nil {s : St} (h : K s) : wpL E qt ops [] s K := h
theorem evS {x : Operand} {v : V} (h : evX E L x = some v) : St.ev E (Sx nt b L rb R esc g) x = some v := evX_ok h
theorem evSs {xs : List Operand} {vs : List V} (h : evXs E L xs = some vs) : evL E (Sx nt b L rb R esc g) xs = some vs := evXs_ok h
theorem x_mkmap {t : TypeId} (h : wX ops nt L gd = some true) (hd : Nat.blt d nt = true) (k : wpL E qt ops l (Sx nt b ((d, .map (g.objs.length + os.length)) :: L) rb R esc (g.ext (os ++ [.map [] 0]) ts)) K) :
    wpL E qt ops (⟨some d, .makeMap t none, ty, pos, after, gd⟩ :: l) (Sx nt b L rb R esc (g.ext os ts)) K := by
  refine x_op (s1 := Sx nt b L rb R esc g) h hd rfl ?_ k
  simp only [stepV, Sx, ext_len, ext_new]
theorem x_lookup {t kt et : TypeId} {kd : TypeDesc} {zv r : V} {x y : Operand} {i c : Nat} {k : PV} {es : List (PV × V × Nat)} {ok : Bool} (h : wX ops nt L gd = some true) (hd : Nat.blt d nt = true) (hx : evX E L x = some (.map (g.objs.length + i))) (hy : evX E L y = some (.p k))
    (ho : os[i]? = some (.map es c)) (hu : E.P.underlying t = some (.map kt et)) (hk : E.P.underlying kt = some kd) (hz : zeroV E et = some zv) (hok : keyOk kd k = true) (hall : es.all (fun e => keyOk kd e.1) = true)
    (hr : (match findKey es k with | some v => (if ok then .tup [v, .p (.bool true)] else v) | none => (if ok then .tup [zv, .p (.bool false)] else zv)) = r)
    (kk : wpL E qt ops l (Sx nt b ((d, r) :: L) rb R esc (g.ext os ts)) K) : wpL E qt ops (⟨some d, .lookup t x y ok, ty, pos, after, gd⟩ :: l) (Sx nt b L rb R esc (g.ext os ts)) K := by
  refine x_op (s1 := Sx nt b L rb R esc g) h hd rfl ?_ kk
  have he : entriesOf (Sx nt b L rb R esc (g.ext os ts)).g (.map (g.objs.length + i)) = some es := by
    simp only [entriesOf, Sx, ext_obj, ho]
  simp only [stepV, evS hx, evS hy, hu, hk, hz, he, hok, hall, and_self, if_true]
  subst hr
  cases findKey es k <;> rfl
theorem x_mapnew {t kt et : TypeId} {kd : TypeDesc} {x y z : Operand} {i c : Nat} {k : PV} {v : V} {es : List (PV × V × Nat)} {op : Op} (hop : op = .mapUpdate t x y z ∨ op = .insert t x y z) (h : wX ops nt L gd = some true) (hw : g.wo = g.objs.length) (hx : evX E L x = some (.map (g.objs.length + i))) (hy : evX E L y = some (.p k)) (hv : evX E L z = some v)
    (ho : os[i]? = some (.map es c)) (hu : E.P.underlying t = some (.map kt et)) (hk : E.P.underlying kt = some kd) (hok : keyOk kd k = true) (hall : es.all (fun e => keyOk kd e.1) = true) (hone : (cellsOf v).all one = true) (hf : findKey es k = none)
    (kk : wpL E qt ops l (Sx nt b L rb R esc (g.ext (os.set i (.map (es ++ [(k, v, c)]) (c + 1))) ts)) K) : wpL E qt ops (⟨none, op, ty, pos, after, gd⟩ :: l) (Sx nt b L rb R esc (g.ext os ts)) K := by
  have hg : (Sx nt b L rb R esc (g.ext os ts)).g.objs[g.objs.length + i]? = some (.map es c) := by simp only [Sx, ext_obj, ho]
  have hs : (Sx nt b L rb R esc (g.ext os ts)).g.setObj (g.objs.length + i) (.map (es ++ [(k, v, c)]) (c + 1)) = g.ext (os.set i (.map (es ++ [(k, v, c)]) (c + 1))) ts := ext_set hw
  rcases hop with rfl | rfl
  · refine x_op0 (v := .undef) h rfl ?_ kk
    simp only [stepV, evS hx, evS hy, evS hv, hu, hk, hg, hok, hall, hone, and_self, if_true, hf, hs]
    rfl
  · refine x_op0 (v := .undef) h rfl ?_ kk
    simp only [stepV, evS hx, evS hy, evS hv, hu, hk, hg, hok, hall, hone, and_self, if_true, hf, hs]
    rfl
theorem x_mkslice {t e : TypeId} {x y : Operand} {z : List V} {n m : Nat} {by' : Nat} (h : wX ops nt L gd = some true) (hd : Nat.blt d nt = true) (hx : evX E L x = some (.p (.int .i64 n))) (hy : evX E L y = some (.p (.int .i64 n))) (he : elemOf E t = some e) (hz : zeroOf E e = some z)
    (hi : (E.P.info? e).map (fun i => (i.size, i.bytes)) = some (m, by')) (hm : (Nat.blt 0 m && Nat.beq z.length m && z.all one) = true) (hn : n * by' ≤ 2 ^ 47) (hn2 : n ≤ 2 ^ 47)
    (k : wpL E qt ops l (Sx nt b ((d, .arr (g.objs.length + os.length) 0 n n m) :: L) rb R esc (g.ext (os ++ [.cells (List.replicate n z).flatten]) ts)) K) :
    wpL E qt ops (⟨some d, .makeSlice t x y, ty, pos, after, gd⟩ :: l) (Sx nt b L rb R esc (g.ext os ts)) K := by
  simp only [Bool.and_eq_true] at hm
  obtain ⟨⟨h1, h2⟩, h3⟩ := hm
  have h1 := blt h1
  have h2 := Nat.eq_of_beq_eq_true h2
  obtain ⟨inf, hinf, hie⟩ := Option.map_eq_some_iff.1 hi
  simp only [Prod.mk.injEq] at hie
  obtain ⟨rfl, rfl⟩ := hie
  refine x_op (s1 := Sx nt b L rb R esc g) h hd rfl ?_ k
  simp only [stepV, he, evS hx, evS hy, hinf, hz]
  rw [if_neg]
  · simp only [Int.toNat_natCast, Sx, ext_len, ext_new]
  · have : (inf.bytes : Int) * (n : Int) = ((n * inf.bytes : Nat) : Int) := by push_cast; exact Int.mul_comm _ _
    rw [this]
    simp only [h3, not_true_eq_false, or_false]
    omega
theorem x_iaA {t e : TypeId} {n : Nat} {p q : Operand} {id off len cap : Nat} {i : Int} (h : wX ops nt L gd = some true) (hd : Nat.blt d nt = true) (hp : evX E L p = some (.arr id off len cap n)) (hq : evX E L q = some (.p (.int .i64 i)))
    (hu : E.P.underlying t = some (.slice e)) (hz : sz E e = some n) (hn : Nat.beq n 0 = false) (h0 : 0 ≤ i) (hi : i < len)
    (k : wpL E qt ops l (Sx nt b ((d, .ptr id (off + i.toNat * n)) :: L) rb R esc g) K) : wpL E qt ops (⟨some d, .indexAddr t p q, ty, pos, after, gd⟩ :: l) (Sx nt b L rb R esc g) K := by
  refine x_op (s1 := Sx nt b L rb R esc g) h hd rfl ?_ k
  simp only [stepV, evS hp, evS hq, hu, hz]
  rw [if_neg (by omega), if_neg (fun e => by rw [e] at hn; cases hn)]
  simp only [hi, and_self, if_true]
theorem x_lenA {t e : TypeId} {y : Operand} {id off len cap n : Nat} (h : wX ops nt L gd = some true) (hd : Nat.blt d nt = true) (hx : evX E L y = some (.arr id off len cap n)) (hu : E.P.underlying t = some (.slice e))
    (k : wpL E qt ops l (Sx nt b ((d, .p (.int .i64 len)) :: L) rb R esc g) K) : wpL E qt ops (⟨some d, .call { callee := .builtin .len, args := #[y], argTypes := #[t] }, ty, pos, after, gd⟩ :: l) (Sx nt b L rb R esc g) K :=
  wpl_len (wX_ok h) (blt hd) (evX_ok hx) hu rfl (by rw [ofL_upd]; exact k)
theorem x_ldP {t : TypeId} {x : Operand} {i off : Nat} {cs : List V} {v : V} (h : wX ops nt L gd = some true) (hd : Nat.blt d nt = true) (hx : evX E L x = some (.ptr (g.objs.length + i) off)) (hi : isag E t = some false) (ho : os[i]? = some (.cells cs)) (hc : cs[off]? = some v)
    (k : wpL E qt ops l (Sx nt b ((d, v) :: L) rb R esc (g.ext os ts)) K) : wpL E qt ops (⟨some d, .load t x, ty, pos, after, gd⟩ :: l) (Sx nt b L rb R esc (g.ext os ts)) K := by
  refine x_op (s1 := Sx nt b L rb R esc g) h hd rfl ?_ k
  have hlt := (List.getElem?_eq_some_iff.1 hc).1
  have ht : take? cs off 1 = some [v] := by
    unfold take?
    rw [if_pos (by omega)]
    congr 1
    rw [List.take_one, List.head?_drop, hc]
    rfl
  have hg : (Sx nt b L rb R esc (g.ext os ts)).g.objs[g.objs.length + i]? = some (.cells cs) := by simp only [Sx, ext_obj, ho]
  simp only [stepV, evS hx, St.loadV, hi, St.loadCells, hg, ht]
  rfl
theorem put?_one {cs : List V} {off : Nat} {v : V} (h : off < cs.length) : put? cs off [v] = some (cs.set off v) := by
  unfold put?
  rw [if_pos (by simp; omega)]
  congr 1
  rw [List.set_eq_take_append_cons_drop, if_pos h]
  simp
theorem x_stP {t : TypeId} {x y : Operand} {i off n : Nat} {cs : List V} {v : V} (h : wX ops nt L gd = some true) (hw : g.wo = g.objs.length) (hx : evX E L x = some (.ptr (g.objs.length + i) off)) (hy : evX E L y = some v) (hz : sz E t = some 1) (hc : cellsOf v = [v]) (h1 : one v = true)
    (ho : os[i]? = some (.cells cs)) (hlt : off < cs.length) (k : wpL E qt ops l (Sx nt b L rb R esc (g.ext (os.set i (.cells (cs.set off v))) ts)) K) :
    wpL E qt ops (⟨none, .store t x y, ty, pos, after, gd⟩ :: l) (Sx nt b L rb R esc (g.ext os ts)) K := by
  refine x_op0 (v := .undef) h rfl ?_ k
  have hg : (Sx nt b L rb R esc (g.ext os ts)).g.objs[g.objs.length + i]? = some (.cells cs) := by simp only [Sx, ext_obj, ho]
  have hs : (Sx nt b L rb R esc (g.ext os ts)).g.setObj (g.objs.length + i) (.cells (cs.set off v)) = g.ext (os.set i (.cells (cs.set off v))) ts := ext_set hw
  simp only [stepV, evS hx, evS hy, hz, hc, List.length_singleton, if_true, St.storeCells, List.all_cons, h1, List.all_nil, Bool.and_true, hg, put?_one hlt, Option.map_some, hs]
  rfl
theorem x_boxE {t : TypeId} {x : Operand} {v : V} (h : wX ops nt L gd = some true) (hd : Nat.blt d nt = true) (he : esc d = true) (hx : evX E L x = some v) (ho : (cellsOf v).all one = true)
    (k : wpL E qt ops l (Sx nt b ((d, .ptr (g.objs.length + os.length) 0) :: L) rb R esc (g.ext (os ++ [.cells (cellsOf v)]) ts)) K) :
    wpL E qt ops (⟨some d, .box t x, ty, pos, after, gd⟩ :: l) (Sx nt b L rb R esc (g.ext os ts)) K := by
  refine x_op (s1 := Sx nt b L rb R esc g) h hd rfl ?_ k
  have he' : (Sx nt b L rb R esc (g.ext os ts)).esc d = true := he
  simp only [stepV, evS hx, St.newVar, ho, if_true, he']
  simp only [Sx, ext_len, ext_new]
theorem x_ldO {t : TypeId} {x : Operand} {id off : Nat} {cs : List V} {v : V} (h : wX ops nt L gd = some true) (hd : Nat.blt d nt = true) (hx : evX E L x = some (.ptr id off)) (hi : isag E t = some false) (ho : g.objs[id]? = some (.cells cs)) (hc : cs[off]? = some v)
    (k : wpL E qt ops l (Sx nt b ((d, v) :: L) rb R esc g) K) : wpL E qt ops (⟨some d, .load t x, ty, pos, after, gd⟩ :: l) (Sx nt b L rb R esc g) K := by
  refine x_op (s1 := Sx nt b L rb R esc g) h hd rfl ?_ k
  have hlt := (List.getElem?_eq_some_iff.1 hc).1
  have ht : take? cs off 1 = some [v] := by
    unfold take?
    rw [if_pos (by omega)]
    congr 1
    rw [List.take_one, List.head?_drop, hc]
    rfl
  have hg : (Sx nt b L rb R esc g).g.objs[id]? = some (.cells cs) := ho
  simp only [stepV, evS hx, St.loadV, hi, St.loadCells, hg, ht]
  rfl
theorem x_mkfn {f : FuncId} {caps : Array Operand} {vs : List V} (h : wX ops nt L gd = some true) (hd : Nat.blt d nt = true) (hc : evXs E L caps.toList = some vs) (ho : vs.all one = true)
    (k : wpL E qt ops l (Sx nt b ((d, .fn (.func f) vs) :: L) rb R esc g) K) : wpL E qt ops (⟨some d, .makeFunc (.func f) #[] caps, ty, pos, after, gd⟩ :: l) (Sx nt b L rb R esc g) K := by
  refine x_op (s1 := Sx nt b L rb R esc g) h hd rfl ?_ k
  simp only [stepV, evSs hc, ho, if_true]
  rfl
variable {α : Type} {f : α → List PV}
def accV (f : α → List PV) (T n : Nat) : List α → V
  | [] => .p .nilsl
  | x :: xs => .sl ((x :: xs).map fun a => (f a).map .p) (.own T (x :: xs).length n)
def accT : List α → List Nat
  | [] => []
  | x :: xs => [(x :: xs).length]
theorem Rd.acc {T n : Nat} {xs : List α} : Rd f (accV f T n xs) xs := by
  cases xs with
  | nil => exact .nil
  | cons x xs => exact .sl (x :: xs) _
def Sl.of (xs : List α) : Sl α := ⟨xs.isEmpty, xs, by cases xs <;> simp⟩
theorem pvCells_map (l : List PV) : pvCells (l.map .p) = some l := by
  induction l with
  | nil => rfl
  | cons x l ih => simp [pvCells, ih]
theorem pvRows_map (xs : List α) : pvRows (xs.map fun a => (f a).map .p) = some (xs.map f) := by
  induction xs with
  | nil => rfl
  | cons x xs ih => simp [pvRows, pvCells_map, ih]
theorem seal_acc {T n : Nat} {xs : List α} {g : G} : sealV g (accV f T n xs) = some (.p ((Sl.of xs).enc f)) := by
  cases xs with
  | nil => rfl
  | cons x xs =>
    have := pvRows_map (f := f) (x :: xs)
    simp only [accV, sealV, sealCell, this, Option.map_some]
    rfl
theorem rows_rd {v : V} {xs : List α} (h : Rd f v xs) {s : St} {n : Nat} : s.rows n v = some (xs.map fun a => (f a).map .p) := by
  cases h with
  | nil => rfl
  | p => simp [St.rows, List.map_map]
  | sl => rfl
theorem all_rowOk {n : Nat} {xs : List α} (hl : ∀ a, (f a).length = n) : (xs.map fun a => (f a).map V.p).all (rowOk n) = true := by
  rw [List.all_eq_true]
  intro r hr
  obtain ⟨a, _, rfl⟩ := List.mem_map.1 hr
  simp only [rowOk, List.length_map, hl, beq_self_eq_true, Bool.true_and]
  rw [List.all_eq_true]
  intro c hc
  obtain ⟨p, _, rfl⟩ := List.mem_map.1 hc
  rfl
theorem append_nil {s : St} {dst : Option Tmp} {e : TypeId} {y : V} {i : TypeInfo} {z r : List V} {new : List (List V)} (hi : E.P.info? e = some i) (hz : zeroOf E e = some z) (hr : s.rows i.size y = some (r :: new)) (hb : s.big dst = false)
    (hok : ¬ (i.size = 0 ∨ i.bytes = 0 ∨ z.length ≠ i.size ∨ ¬ (r :: new).all (rowOk i.size) = true)) (hn : (r :: new).length * i.bytes ≤ 2 ^ 47) :
    s.append E dst e (.p .nilsl) y = some (.sl (r :: new) (.own s.g.toks.length (r :: new).length i.size), { s with g := { s.g with toks := s.g.toks ++ [(r :: new).length] } }) := by
  unfold St.append
  simp only [hi, hz, hr]
  rw [if_neg hok, if_pos hn, hb]
  rfl
theorem append_own {s : St} {dst : Option Tmp} {e : TypeId} {y : V} {i : TypeInfo} {z r : List V} {new rows : List (List V)} {k pos : Nat} (hi : E.P.info? e = some i) (hz : zeroOf E e = some z) (hr : s.rows i.size y = some (r :: new))
    (hok : ¬ (i.size = 0 ∨ i.bytes = 0 ∨ z.length ≠ i.size ∨ ¬ (r :: new).all (rowOk i.size) = true)) (hn : (rows.length + (r :: new).length) * i.bytes ≤ 2 ^ 47) (hrows : rows.all (rowOk i.size) = true) (ht : s.g.toks[k]? = some pos) :
    s.append E dst e (.sl rows (.own k pos i.size)) y = some (.sl (rows ++ r :: new) (.own k (pos + (r :: new).length) i.size), { s with g := { s.g with toks := s.g.toks.set k (pos + (r :: new).length), wt := min s.g.wt k } }) := by
  unfold St.append
  simp only [hi, hz, hr]
  rw [if_neg hok, if_pos ⟨hn, hrows, ht, trivial⟩]
theorem x_acc {t u e : TypeId} {x y : Operand} {m by' : Nat} {z : List V} {xs ys : List α} {w : V} (h : wX ops nt L gd = some true) (hd : Nat.blt d nt = true) (hnb : esc d = false) (hwt : g.wt = g.toks.length) (hx : evX E L x = some (accV f g.toks.length m xs)) (hy : evX E L y = some w) (hr : Rd f w ys)
    (he : elemOf E t = some e) (hu : E.P.underlying u = some (.slice e)) (hz : zeroOf E e = some z) (hi : (E.P.info? e).map (fun i => (i.size, i.bytes)) = some (m, by')) (hm : (Nat.blt 0 m && Nat.blt 0 by' && Nat.beq z.length m) = true)
    (hl : ∀ a, (f a).length = m) (hn : (xs.length + ys.length) * by' ≤ 2 ^ 47)
    (k : wpL E qt ops l (Sx nt b ((d, accV f g.toks.length m (xs ++ ys)) :: L) rb R esc (g.ext os (accT (xs ++ ys)))) K) :
    wpL E qt ops (⟨some d, .call { callee := .builtin .append, args := #[x, y], argTypes := #[t, u] }, ty, pos, after, gd⟩ :: l) (Sx nt b L rb R esc (g.ext os (accT xs))) K := by
  simp only [Bool.and_eq_true] at hm
  obtain ⟨⟨h1, h2⟩, h3⟩ := hm
  have h1 := blt h1
  have h2 := blt h2
  have h3 := Nat.eq_of_beq_eq_true h3
  obtain ⟨inf, hinf, hie⟩ := Option.map_eq_some_iff.1 hi
  simp only [Prod.mk.injEq] at hie
  obtain ⟨rfl, rfl⟩ := hie
  refine x_op (s1 := Sx nt b L rb R esc g) h hd rfl ?_ k
  have a0 : (#[t, u] : Array TypeId)[0]? = some t := rfl
  have a1 : (#[t, u] : Array TypeId)[1]? = some u := rfl
  have hargs : evL E (Sx nt b L rb R esc (g.ext os (accT xs))) [x, y] = some [accV f g.toks.length inf.size xs, w] := by simp only [evL, evS hx, evS hy]
  have hrw := rows_rd hr (s := Sx nt b L rb R esc (g.ext os (accT xs))) (n := inf.size)
  have step : ∀ r, (Sx nt b L rb R esc (g.ext os (accT xs))).append E (some d) e (accV f g.toks.length inf.size xs) w = some r →
      stepV E (Sx nt b L rb R esc (g.ext os (accT xs))) ⟨some d, .call { callee := .builtin .append, args := #[x, y], argTypes := #[t, u] }, ty, pos, after, gd⟩ = some r := by
    intro r hr
    simp only [stepV, hargs, a0, a1, he, hu]
    exact hr
  refine step _ ?_
  cases ys with
  | nil =>
    unfold St.append
    simp only [hinf, hz, hrw, List.map_nil, List.append_nil]
    cases xs <;> rfl
  | cons y ys =>
    simp only [List.map_cons] at hrw
    have hall := all_rowOk (xs := y :: ys) hl
    simp only [List.map_cons] at hall
    have hok : ¬ (inf.size = 0 ∨ inf.bytes = 0 ∨ z.length ≠ inf.size ∨ ¬ ((f y).map V.p :: ys.map fun a => (f a).map V.p).all (rowOk inf.size) = true) := by
      rw [hall]; simp only [not_true_eq_false, or_false]; omega
    cases xs with
    | nil =>
      rw [show accV f g.toks.length inf.size [] = .p .nilsl from rfl, append_nil (dst := some d) hinf hz hrw hnb hok (by simpa using hn)]
      simp [Sx, G.ext, accV, accT]
    | cons x xs =>
      have hall2 := all_rowOk (xs := x :: xs) hl
      have htok : (Sx nt b L rb R esc (g.ext os (accT (x :: xs)))).g.toks[g.toks.length]? = some (x :: xs).length := by
        have := ext_tok (g := g) (os := os) (ts := accT (x :: xs)) (i := 0)
        rw [Nat.add_zero] at this
        exact this
      rw [show accV f g.toks.length inf.size (x :: xs) = .sl ((x :: xs).map fun a => (f a).map .p) (.own g.toks.length (x :: xs).length inf.size) from rfl,
        append_own hinf hz hrw hok (by simpa using hn) hall2 htok]
      have e1 : (g.toks ++ [xs.length + 1]).set g.toks.length (xs.length + 1 + (ys.length + 1)) = g.toks ++ [xs.length + (ys.length + 1) + 1] := by
        rw [List.set_append_right _ _ (Nat.le_refl _)]
        simp
        omega
      simp only [Sx, G.ext, accV, accT, List.cons_append, List.map_cons, List.map_append, List.length_cons, List.length_append, List.length_map, hwt, e1, Nat.min_self]
      rw [show xs.length + 1 + (ys.length + 1) = xs.length + (ys.length + 1) + 1 by omega]
end
end Go.Vm
set_option linter.unusedVariables false
namespace Go.Vm
open Go Go.Proofs
attribute [local irreducible] wpL
set_option maxRecDepth 20000 in
theorem sameInts_ok {v w : V} {a c : List Int} (hv : Rd eInt v a) (hw : Rd eInt w c) (ha : a.length < 2 ^ 60) : Pure En 14 [v, w] (.p (.bool (decide (a = c)))) := by
  refine pure_walk [(0, v), (1, w)] Tryz.func14 rfl rfl rfl fun g hwo hwt => ?_
  show Wc En _ (Tryz.f14.body.getD .skip) [] (Sx 26 _ _ _ _ _ _)
  unfold Tryz.f14
  simp only [Option.getD_some]
  refine wc_seq ?_
  refine wc_reg fun K hK => ?_
  refine x_assign rfl rfl rfl ?_
  refine x_nil (hK _ ?_); clear hK K
  refine go_seq ?_
  refine wc_seq ?_
  refine wc_seq ?_
  refine wc_reg fun K hK => ?_
  refine x_move rfl rfl rfl ?_
  refine x_len rfl rfl rfl (by first | assumption | exact Rd.enc) und27 ?_
  refine x_move rfl rfl rfl ?_
  refine x_len rfl rfl rfl (by first | assumption | exact Rd.enc) und27 ?_
  refine x_bin rfl rfl rfl rfl rfl ?_
  refine x_nil (hK _ ?_); clear hK K
  refine go_seq ?_
  refine xc_cond _ rfl (fun hc0 => ?_) (fun hc0 => ?_)
  · skip
    refine wc_seq ?_
    refine wc_reg fun K hK => ?_
    refine x_assign rfl rfl rfl ?_
    refine x_nil (hK _ ?_); clear hK K
    refine go_seq ?_
    refine wc_ret ?_
    refine go_seq_ret ?_
    exact x_end1 (Or.inr rfl) rfl rfl rfl rfl rfl rfl (by congr 2; simp at hc0; simp; intro e; exact hc0 (by rw [e]))
  · skip
    refine wc_skip ?_
    refine go_seq ?_
    refine wc_seq ?_
    refine wc_seq ?_
    refine wc_reg fun K hK => ?_
    refine x_move rfl rfl rfl ?_
    refine x_len rfl rfl rfl (by first | assumption | exact Rd.enc) und27 ?_
    refine x_move rfl rfl rfl ?_
    refine x_nil (hK _ ?_); clear hK K
    refine go_seq ?_
    refine wc_block ?_
    refine xc_loop [(0, _), (1, _), (12, _)] [] (fun j : Nat => [(13, .p (.int .i64 j))]) (fun j : Nat => j ≤ a.length ∧ a.length = c.length ∧ a.take j = c.take j) (fun j : Nat => a.length - j) 0 (by repeat (first | exact trivial | refine And.intro rfl ?_)) (by repeat (first | exact trivial | refine And.intro rfl ?_)) ⟨Nat.zero_le _, by simp at hc0; omega, rfl⟩ ?_
    rintro j R hR1 hR2 ⟨hj, hl, he⟩ b rb
    refine wc_seq ?_
    refine wc_reg fun K hK => ?_
    refine x_bin rfl rfl rfl rfl rfl ?_
    refine x_nil (hK _ ?_); clear hK K
    refine go_seq ?_
    refine wc_seq ?_
    refine xc_cond _ rfl (fun hc1 => ?_) (fun hc1 => ?_)
    · skip
      have hlt : j < a.length := by simpa using hc1
      have e1 : a[j]? = some a[j] := by simp
      have e2 : c[j]? = some (c[j]'(by omega)) := by simp
      refine wc_skip ?_
      refine go_seq ?_
      refine wc_seq ?_
      refine wc_block ?_
      refine wc_seq ?_
      refine wc_reg fun K hK => ?_
      refine x_move rfl rfl rfl ?_
      refine x_assign rfl rfl rfl ?_
      refine x_nil (hK _ ?_); clear hK K
      refine go_seq ?_
      refine wc_seq ?_
      refine xc_drw [0, 1, 2, 3, 4, 5, 6, 7, 8] mixed (by kernel_rfl) fun K hK => ?_
      refine x_move rfl rfl rfl ?_
      refine x_move rfl rfl rfl ?_
      refine x_ia rfl rfl rfl (by first | assumption | exact Rd.enc) rfl und27 sz3 rfl (by assumption) rfl ?_
      refine x_ldR rfl rfl rfl isag3 rfl ?_
      refine x_move rfl rfl rfl ?_
      refine x_move rfl rfl rfl ?_
      refine x_ia rfl rfl rfl (by first | assumption | exact Rd.enc) rfl und27 sz3 rfl (by assumption) rfl ?_
      refine x_ldR rfl rfl rfl isag3 rfl ?_
      refine x_bin rfl rfl rfl rfl rfl ?_
      refine x_nil (hK _ ?_); clear hK K
      refine go_seq ?_
      refine xc_cond _ rfl (fun hc2 => ?_) (fun hc2 => ?_)
      · skip
        refine wc_seq ?_
        refine wc_reg fun K hK => ?_
        refine x_assign rfl rfl rfl ?_
        refine x_nil (hK _ ?_); clear hK K
        refine go_seq ?_
        refine wc_ret ?_
        refine go_blk_ret ?_
        refine go_seq_ret ?_
        refine hR2 _ _ (by simp) ?_
        refine go_blk_ret ?_
        refine go_seq_ret ?_
        exact x_end1 (Or.inr rfl) rfl rfl rfl rfl rfl rfl (by congr 2; simp at hc2; simp; intro e; exact hc2 (by simp [e]))
      · skip
        refine wc_skip ?_
        refine go_blk ?_
        refine go_seq ?_
        refine wc_reg fun K hK => ?_
        refine x_inc rfl rfl rfl rfl (by omega) ?_
        refine x_move rfl rfl rfl ?_
        refine x_nil (hK _ ?_); clear hK K
        exact hR1 (j + 1) _ _ _ _ ⟨hlt, hl, by rw [List.take_succ_eq_append_getElem hlt, List.take_succ_eq_append_getElem (by omega), he]; simp at hc2; rw [hc2]⟩ (by omega) (by repeat (first | exact trivial | refine And.intro rfl ?_)) (by repeat (first | exact trivial | refine And.intro rfl ?_))
    · skip
      refine wc_exit ?_
      refine go_seq_exit ?_
      refine hR2 _ _ (by simp) ?_
      refine go_blk_exit ?_
      refine go_seq ?_
      refine wc_seq ?_
      refine wc_reg fun K hK => ?_
      refine x_assign rfl rfl rfl ?_
      refine x_nil (hK _ ?_); clear hK K
      refine go_seq ?_
      refine wc_ret ?_
      have : j = a.length := by simp at hc1; omega
      subst this
      rw [List.take_of_length_le (Nat.le_refl _), List.take_of_length_le (by omega)] at he
      exact x_end1 (Or.inr rfl) rfl rfl rfl rfl rfl rfl (by simp [he])
set_option maxRecDepth 20000 in
theorem low_ok (c : UInt8) : Pure En 172 [.p (.int .u8 c.toNat)] (.p (.bool (lowB c))) := by
  refine pure_walk [(0, .p (.int .u8 c.toNat))] Tryz.func172 rfl rfl rfl fun g hwo hwt => ?_
  show Wc En _ (Tryz.f172.body.getD .skip) [] (Sx 13 _ _ _ _ _ _)
  unfold Tryz.f172
  simp only [Option.getD_some]
  refine wc_seq ?_
  refine wc_reg fun K hK => ?_
  refine x_assign rfl rfl rfl ?_
  refine x_nil (hK _ ?_); clear hK K
  refine go_seq ?_
  refine wc_seq ?_
  refine wc_reg fun K hK => ?_
  refine x_move rfl rfl rfl ?_
  refine x_bin rfl rfl rfl rfl rfl ?_
  refine x_moveS rfl rfl rfl (fun hg5 => ?_) (fun hg5 => ?_)
  · skip
    refine x_move rfl rfl rfl ?_
    refine x_bin rfl rfl rfl rfl rfl ?_
    refine x_pickT rfl rfl rfl rfl ?_
    refine x_moveS rfl rfl rfl (fun hg9 => ?_) (fun hg9 => ?_)
    · skip
      refine x_skip rfl rfl ?_
      refine x_skip rfl rfl ?_
      refine x_pickT rfl rfl rfl rfl ?_
      refine x_assign rfl rfl rfl ?_
      refine x_nil (hK _ ?_); clear hK K
      refine go_seq ?_
      refine wc_ret ?_
      exact x_end1 (Or.inr rfl) rfl rfl rfl rfl rfl rfl (veq (by (try simp [lowB] at *); omega))
    · skip
      refine x_move rfl rfl rfl ?_
      refine x_bin rfl rfl rfl rfl rfl ?_
      refine x_pickF rfl rfl rfl rfl ?_
      refine x_assign rfl rfl rfl ?_
      refine x_nil (hK _ ?_); clear hK K
      refine go_seq ?_
      refine wc_ret ?_
      exact x_end1 (Or.inr rfl) rfl rfl rfl rfl rfl rfl (veq (by (try simp [lowB] at *); omega))
  · skip
    refine x_skip rfl rfl ?_
    refine x_skip rfl rfl ?_
    refine x_pickF rfl rfl rfl rfl ?_
    refine x_move rfl rfl rfl ?_
    refine x_move rfl rfl rfl ?_
    refine x_bin rfl rfl rfl rfl rfl ?_
    refine x_pickF rfl rfl rfl rfl ?_
    refine x_assign rfl rfl rfl ?_
    refine x_nil (hK _ ?_); clear hK K
    refine go_seq ?_
    refine wc_ret ?_
    exact x_end1 (Or.inr rfl) rfl rfl rfl rfl rfl rfl (veq (by (try simp [lowB] at *); omega))
set_option maxRecDepth 20000 in
theorem digit_ok (c : UInt8) : Pure En 192 [.p (.int .u8 c.toNat)] (.p (.bool (digB c))) := by
  refine pure_walk [(0, .p (.int .u8 c.toNat))] Tryz.func192 rfl rfl rfl fun g hwo hwt => ?_
  show Wc En _ (Tryz.f192.body.getD .skip) [] (Sx 9 _ _ _ _ _ _)
  unfold Tryz.f192
  simp only [Option.getD_some]
  refine wc_seq ?_
  refine wc_reg fun K hK => ?_
  refine x_assign rfl rfl rfl ?_
  refine x_nil (hK _ ?_); clear hK K
  refine go_seq ?_
  refine wc_seq ?_
  refine wc_reg fun K hK => ?_
  refine x_move rfl rfl rfl ?_
  refine x_bin rfl rfl rfl rfl rfl ?_
  refine x_moveS rfl rfl rfl (fun hg5 => ?_) (fun hg5 => ?_)
  · skip
    refine x_move rfl rfl rfl ?_
    refine x_bin rfl rfl rfl rfl rfl ?_
    refine x_pickT rfl rfl rfl rfl ?_
    refine x_assign rfl rfl rfl ?_
    refine x_nil (hK _ ?_); clear hK K
    refine go_seq ?_
    refine wc_ret ?_
    exact x_end1 (Or.inr rfl) rfl rfl rfl rfl rfl rfl (veq (by (try simp [digB] at *); omega))
  · skip
    refine x_skip rfl rfl ?_
    refine x_skip rfl rfl ?_
    refine x_pickF rfl rfl rfl rfl ?_
    refine x_assign rfl rfl rfl ?_
    refine x_nil (hK _ ?_); clear hK K
    refine go_seq ?_
    refine wc_ret ?_
    exact x_end1 (Or.inr rfl) rfl rfl rfl rfl rfl rfl (veq (by (try simp [digB] at *); omega))
set_option maxRecDepth 20000 in
theorem inName_ok (c : UInt8) : Pure En 174 [.p (.int .u8 c.toNat)] (.p (.bool (inNameB c))) := by
  refine pure_walk [(0, .p (.int .u8 c.toNat))] Tryz.func174 rfl rfl rfl fun g hwo hwt => ?_
  show Wc En _ (Tryz.f174.body.getD .skip) [] (Sx 9 _ _ _ _ _ _)
  unfold Tryz.f174
  simp only [Option.getD_some]
  refine wc_seq ?_
  refine wc_reg fun K hK => ?_
  refine x_assign rfl rfl rfl ?_
  refine x_nil (hK _ ?_); clear hK K
  refine go_seq ?_
  refine wc_seq ?_
  refine wc_reg fun K hK => ?_
  refine x_move rfl rfl rfl ?_
  refine x_call rfl rfl rfl (by repeat (first | exact ho_nil | refine ho_cons (by first | rfl | exact rd_ho (by assumption)) ?_)) okf172 (low_ok c _) ?_
  refine x_moveS rfl rfl rfl (fun hg5 => ?_) (fun hg5 => ?_)
  · skip
    refine x_skip rfl rfl ?_
    refine x_skip rfl rfl ?_
    refine x_pickT rfl rfl rfl rfl ?_
    refine x_assign rfl rfl rfl ?_
    refine x_nil (hK _ ?_); clear hK K
    refine go_seq ?_
    refine wc_ret ?_
    exact x_end1 (Or.inr rfl) rfl rfl rfl rfl rfl rfl (by simp_all [inNameB])
  · skip
    refine x_move rfl rfl rfl ?_
    refine x_call rfl rfl rfl (by repeat (first | exact ho_nil | refine ho_cons (by first | rfl | exact rd_ho (by assumption)) ?_)) okf192 (digit_ok c _) ?_
    refine x_pickF rfl rfl rfl rfl ?_
    refine x_assign rfl rfl rfl ?_
    refine x_nil (hK _ ?_); clear hK K
    refine go_seq ?_
    refine wc_ret ?_
    exact x_end1 (Or.inr rfl) rfl rfl rfl rfl rfl rfl (by simp_all [inNameB])
set_option maxRecDepth 20000 in
theorem risingI_ok {v : V} {a : List Int} (hv : Rd eInt v a) (ha : a.length < 2 ^ 60) : Pure En 65 [v] (.p (.bool (risI a))) := by
  refine pure_walk [(0, v)] Tryz.func65 rfl rfl rfl fun g hwo hwt => ?_
  show Wc En _ (Tryz.f65.body.getD .skip) [] (Sx 20 _ _ _ _ _ _)
  unfold Tryz.f65
  simp only [Option.getD_some]
  refine wc_seq ?_
  refine wc_reg fun K hK => ?_
  refine x_assign rfl rfl rfl ?_
  refine x_nil (hK _ ?_); clear hK K
  refine go_seq ?_
  refine wc_seq ?_
  refine wc_seq ?_
  refine wc_reg fun K hK => ?_
  refine x_assign rfl rfl rfl ?_
  refine x_nil (hK _ ?_); clear hK K
  refine go_seq ?_
  refine wc_block ?_
  refine xc_loop [(0, _)] [] (fun j : Nat => [(3, .p (.int .i64 ((j + 1 : Nat) : Int)))]) (fun j : Nat => (j = 0 ∨ j < a.length) ∧ ∀ i, i < j → a.getD i 0 < a.getD (i + 1) 0) (fun j : Nat => a.length - j) 0 (by repeat (first | exact trivial | refine And.intro rfl ?_)) (by repeat (first | exact trivial | refine And.intro rfl ?_)) ⟨Or.inl rfl, fun i hi => by omega⟩ ?_
  rintro j R hR1 hR2 ⟨hj, hr⟩ b rb
  refine wc_seq ?_
  refine wc_seq ?_
  refine wc_reg fun K hK => ?_
  refine x_move rfl rfl rfl ?_
  refine x_move rfl rfl rfl ?_
  refine x_len rfl rfl rfl (by first | assumption | exact Rd.enc) und27 ?_
  refine x_bin rfl rfl rfl rfl rfl ?_
  refine x_nil (hK _ ?_); clear hK K
  refine go_seq ?_
  refine xc_cond _ rfl (fun hc0 => ?_) (fun hc0 => ?_)
  · skip
    have hlt : j + 1 < a.length := by simp at hc0; omega
    have e1 : a[((j + 1 : Nat) - (1 : Int)).toNat]? = some a[j] := by rw [show ((j + 1 : Nat) - (1 : Int)).toNat = j by omega]; simp
    have e2 : a[j + 1]? = some (a[j + 1]'hlt) := by simp
    refine wc_skip ?_
    refine go_seq ?_
    refine wc_seq ?_
    refine wc_block ?_
    refine wc_seq ?_
    refine xc_drw [0, 1, 2, 3, 4, 5, 6, 7, 8, 9] mixed (by kernel_rfl) fun K hK => ?_
    refine x_move rfl rfl rfl ?_
    refine x_move rfl rfl rfl ?_
    refine x_sub rfl rfl rfl rfl (by omega) (by omega) ?_
    refine x_iaI rfl rfl rfl (by first | assumption | exact Rd.enc) rfl und27 sz3 rfl (by omega) e1 rfl ?_
    refine x_ldR rfl rfl rfl isag3 rfl ?_
    refine x_move rfl rfl rfl ?_
    refine x_move rfl rfl rfl ?_
    refine x_ia rfl rfl rfl (by first | assumption | exact Rd.enc) rfl und27 sz3 rfl (by assumption) rfl ?_
    refine x_ldR rfl rfl rfl isag3 rfl ?_
    refine x_bin rfl rfl rfl rfl rfl ?_
    refine x_nil (hK _ ?_); clear hK K
    refine go_seq ?_
    refine xc_cond _ rfl (fun hc1 => ?_) (fun hc1 => ?_)
    · skip
      refine wc_seq ?_
      refine wc_reg fun K hK => ?_
      refine x_assign rfl rfl rfl ?_
      refine x_nil (hK _ ?_); clear hK K
      refine go_seq ?_
      refine wc_ret ?_
      refine go_blk_ret ?_
      refine go_seq_ret ?_
      refine hR2 _ _ (by simp) ?_
      refine go_blk_ret ?_
      refine go_seq_ret ?_
      exact x_end1 (Or.inr rfl) rfl rfl rfl rfl rfl rfl (by rw [risI_no hlt (by simpa using hc1)])
    · skip
      refine wc_skip ?_
      refine go_blk ?_
      refine go_seq ?_
      refine wc_reg fun K hK => ?_
      refine x_move rfl rfl rfl ?_
      refine x_inc rfl rfl rfl rfl (by omega) ?_
      refine x_assign rfl rfl rfl ?_
      refine x_nil (hK _ ?_); clear hK K
      exact hR1 (j + 1) _ _ _ _ ⟨Or.inr hlt, risI_up hr hlt (by simpa using hc1)⟩ (by omega) (by repeat (first | exact trivial | refine And.intro rfl ?_)) (by repeat (first | exact trivial | refine And.intro rfl ?_))
  · skip
    refine wc_exit ?_
    refine go_seq_exit ?_
    refine hR2 _ _ (by simp) ?_
    refine go_blk_exit ?_
    refine go_seq ?_
    refine wc_seq ?_
    refine wc_reg fun K hK => ?_
    refine x_assign rfl rfl rfl ?_
    refine x_nil (hK _ ?_); clear hK K
    refine go_seq ?_
    refine wc_ret ?_
    exact x_end1 (Or.inr rfl) rfl rfl rfl rfl rfl rfl (by rw [(risI_iff a).2 fun i hi => hr i (by simp at hc0; omega)])
set_option maxRecDepth 20000 in
theorem risingS_ok {v : V} {a : List ByteArray} (hv : Rd eStr v a) (ha : a.length < 2 ^ 60) : Pure En 96 [v] (.p (.bool (risS a))) := by
  refine pure_walk [(0, v)] Tryz.func96 rfl rfl rfl fun g hwo hwt => ?_
  show Wc En _ (Tryz.f96.body.getD .skip) [] (Sx 20 _ _ _ _ _ _)
  unfold Tryz.f96
  simp only [Option.getD_some]
  refine wc_seq ?_
  refine wc_reg fun K hK => ?_
  refine x_assign rfl rfl rfl ?_
  refine x_nil (hK _ ?_); clear hK K
  refine go_seq ?_
  refine wc_seq ?_
  refine wc_seq ?_
  refine wc_reg fun K hK => ?_
  refine x_assign rfl rfl rfl ?_
  refine x_nil (hK _ ?_); clear hK K
  refine go_seq ?_
  refine wc_block ?_
  refine xc_loop [(0, _)] [] (fun j : Nat => [(3, .p (.int .i64 ((j + 1 : Nat) : Int)))]) (fun j : Nat => (j = 0 ∨ j < a.length) ∧ ∀ i, i < j → strLt (a.getD i default) (a.getD (i + 1) default) = true) (fun j : Nat => a.length - j) 0 (by repeat (first | exact trivial | refine And.intro rfl ?_)) (by repeat (first | exact trivial | refine And.intro rfl ?_)) ⟨Or.inl rfl, fun i hi => by omega⟩ ?_
  rintro j R hR1 hR2 ⟨hj, hr⟩ b rb
  refine wc_seq ?_
  refine wc_seq ?_
  refine wc_reg fun K hK => ?_
  refine x_move rfl rfl rfl ?_
  refine x_move rfl rfl rfl ?_
  refine x_len rfl rfl rfl (by first | assumption | exact Rd.enc) und35 ?_
  refine x_bin rfl rfl rfl rfl rfl ?_
  refine x_nil (hK _ ?_); clear hK K
  refine go_seq ?_
  refine xc_cond _ rfl (fun hc0 => ?_) (fun hc0 => ?_)
  · skip
    have hlt : j + 1 < a.length := by simp at hc0; omega
    have e1 : a[((j + 1 : Nat) - (1 : Int)).toNat]? = some a[j] := by rw [show ((j + 1 : Nat) - (1 : Int)).toNat = j by omega]; simp
    have e2 : a[j + 1]? = some (a[j + 1]'hlt) := by simp
    refine wc_skip ?_
    refine go_seq ?_
    refine wc_seq ?_
    refine wc_block ?_
    refine wc_seq ?_
    refine xc_drw [0, 1, 2, 3, 4, 5, 6, 7, 8, 9] mixed (by kernel_rfl) fun K hK => ?_
    refine x_move rfl rfl rfl ?_
    refine x_move rfl rfl rfl ?_
    refine x_sub rfl rfl rfl rfl (by omega) (by omega) ?_
    refine x_iaI rfl rfl rfl (by first | assumption | exact Rd.enc) rfl und35 sz9 rfl (by omega) e1 rfl ?_
    refine x_ldR rfl rfl rfl isag9 rfl ?_
    refine x_move rfl rfl rfl ?_
    refine x_move rfl rfl rfl ?_
    refine x_ia rfl rfl rfl (by first | assumption | exact Rd.enc) rfl und35 sz9 rfl (by assumption) rfl ?_
    refine x_ldR rfl rfl rfl isag9 rfl ?_
    refine x_bin rfl rfl rfl rfl rfl ?_
    refine x_nil (hK _ ?_); clear hK K
    refine go_seq ?_
    refine xc_cond _ rfl (fun hc1 => ?_) (fun hc1 => ?_)
    · skip
      refine wc_seq ?_
      refine wc_reg fun K hK => ?_
      refine x_assign rfl rfl rfl ?_
      refine x_nil (hK _ ?_); clear hK K
      refine go_seq ?_
      refine wc_ret ?_
      refine go_blk_ret ?_
      refine go_seq_ret ?_
      refine hR2 _ _ (by simp) ?_
      refine go_blk_ret ?_
      refine go_seq_ret ?_
      exact x_end1 (Or.inr rfl) rfl rfl rfl rfl rfl rfl (by rw [risS_no hlt (by simpa [strLt] using hc1)])
    · skip
      refine wc_skip ?_
      refine go_blk ?_
      refine go_seq ?_
      refine wc_reg fun K hK => ?_
      refine x_move rfl rfl rfl ?_
      refine x_inc rfl rfl rfl rfl (by omega) ?_
      refine x_assign rfl rfl rfl ?_
      refine x_nil (hK _ ?_); clear hK K
      exact hR1 (j + 1) _ _ _ _ ⟨Or.inr hlt, risS_up hr hlt (by simpa [strLt] using hc1)⟩ (by omega) (by repeat (first | exact trivial | refine And.intro rfl ?_)) (by repeat (first | exact trivial | refine And.intro rfl ?_))
  · skip
    refine wc_exit ?_
    refine go_seq_exit ?_
    refine hR2 _ _ (by simp) ?_
    refine go_blk_exit ?_
    refine go_seq ?_
    refine wc_seq ?_
    refine wc_reg fun K hK => ?_
    refine x_assign rfl rfl rfl ?_
    refine x_nil (hK _ ?_); clear hK K
    refine go_seq ?_
    refine wc_ret ?_
    exact x_end1 (Or.inr rfl) rfl rfl rfl rfl rfl rfl (by rw [(risS_iff a).2 fun i hi => hr i (by simp at hc0; omega)])
set_option maxRecDepth 20000 in
theorem run_ok (s : ByteArray) (hs : s.size < 2 ^ 60) : Pure En 173 [.p (.str s), .fn (.func 174) []] (.p (.int .i64 (runN inNameB s.data.toList))) := by
  refine pure_walk [(0, .p (.str s)), (1, .fn (.func 174) [])] Tryz.func173 rfl rfl rfl fun g hwo hwt => ?_
  show Wc En _ (Tryz.f173.body.getD .skip) [] (Sx 20 _ _ _ _ _ _)
  unfold Tryz.f173
  simp only [Option.getD_some]
  refine wc_seq ?_
  refine wc_reg fun K hK => ?_
  refine x_assign rfl rfl rfl ?_
  refine x_nil (hK _ ?_); clear hK K
  refine go_seq ?_
  refine wc_seq ?_
  refine wc_reg fun K hK => ?_
  refine x_assign rfl rfl rfl ?_
  refine x_nil (hK _ ?_); clear hK K
  refine go_seq ?_
  refine wc_seq ?_
  refine wc_block ?_
  refine xc_loop [(0, _), (1, _)] [] (fun j : Nat => [(5, .p (.int .i64 j))]) (fun j : Nat => j ≤ s.size ∧ ∀ i, i < j → ∃ c, s.data.toList[i]? = some c ∧ inNameB c = true) (fun j : Nat => s.size - j) 0 (by repeat (first | exact trivial | refine And.intro rfl ?_)) (by repeat (first | exact trivial | refine And.intro rfl ?_)) ⟨Nat.zero_le _, fun i hi => by omega⟩ ?_
  rintro j R hR1 hR2 ⟨hj, hr⟩ b rb
  refine wc_seq ?_
  refine wc_seq ?_
  refine wc_reg fun K hK => ?_
  refine x_move rfl rfl rfl ?_
  refine x_move rfl rfl rfl ?_
  refine x_lenStr rfl rfl rfl und9 ?_
  refine x_bin rfl rfl rfl rfl rfl ?_
  refine x_moveS rfl rfl rfl (fun hg10 => ?_) (fun hg10 => ?_)
  · skip
    have hlt : j < s.size := by simp at hg10; omega
    obtain ⟨e0, e1⟩ := str_at hlt
    refine x_move rfl rfl rfl ?_
    refine x_move rfl rfl rfl ?_
    refine x_move rfl rfl rfl ?_
    refine x_index rfl rfl rfl rfl und9 (by omega) (by assumption) ?_
    refine x_callD rfl rfl rfl rfl rfl okf174 (inName_ok _ _) ?_
    refine x_pickT rfl rfl rfl rfl ?_
    refine x_nil (hK _ ?_); clear hK K
    refine go_seq ?_
    refine xc_cond _ rfl (fun hc0 => ?_) (fun hc0 => ?_)
    · skip
      refine wc_skip ?_
      refine go_seq ?_
      refine wc_block ?_
      refine wc_reg fun K hK => ?_
      refine x_move rfl rfl rfl ?_
      refine x_inc rfl rfl rfl rfl (by omega) ?_
      refine x_assign rfl rfl rfl ?_
      refine x_nil (hK _ ?_); clear hK K
      refine go_blk ?_
      exact hR1 (j + 1) _ _ _ _ ⟨hlt, runN_up hr e1 hc0⟩ (by omega) (by repeat (first | exact trivial | refine And.intro rfl ?_)) (by repeat (first | exact trivial | refine And.intro rfl ?_))
    · skip
      refine wc_exit ?_
      refine go_seq_exit ?_
      refine hR2 _ _ (by simp) ?_
      refine go_blk_exit ?_
      refine go_seq ?_
      refine wc_seq ?_
      refine wc_reg fun K hK => ?_
      refine x_move rfl rfl rfl ?_
      refine x_assign rfl rfl rfl ?_
      refine x_nil (hK _ ?_); clear hK K
      refine go_seq ?_
      refine wc_ret ?_
      exact x_end1 (Or.inr rfl) rfl rfl rfl rfl rfl rfl (ieq (by rw [runN_eq inNameB s.data.toList j hr (fun c hc => by rw [e1] at hc; cases hc; exact hc0)]))
  · skip
    refine x_skip rfl rfl ?_
    refine x_skip rfl rfl ?_
    refine x_skip rfl rfl ?_
    refine x_skip rfl rfl ?_
    refine x_skip rfl rfl ?_
    refine x_pickF rfl rfl rfl rfl ?_
    refine x_nil (hK _ ?_); clear hK K
    refine go_seq ?_
    refine xc_cond false rfl (fun h => by cases h) (fun _ => ?_)
    refine wc_exit ?_
    refine go_seq_exit ?_
    refine hR2 _ _ (by simp) ?_
    refine go_blk_exit ?_
    refine go_seq ?_
    refine wc_seq ?_
    refine wc_reg fun K hK => ?_
    refine x_move rfl rfl rfl ?_
    refine x_assign rfl rfl rfl ?_
    refine x_nil (hK _ ?_); clear hK K
    refine go_seq ?_
    refine wc_ret ?_
    exact x_end1 (Or.inr rfl) rfl rfl rfl rfl rfl rfl (ieq (by rw [runN_eq inNameB s.data.toList j hr (fun c hc => by have := (List.getElem?_eq_some_iff.1 hc).1; simp at hg10; simp at this; omega)]))
end Go.Vm
namespace Go.Vm
open Go
theorem loop_toList (s : ByteArray) : s.toList = s.data.toList := ByteArray.toList_eq s
theorem str_ext {a b : ByteArray} : a.toList = b.toList ↔ a = b := by
  rw [loop_toList, loop_toList]
  constructor
  · intro h
    cases a; cases b
    simp at h
    rw [h]
  · rintro rfl; rfl
def leadP {α : Type} (p : α → Bool) : List α → Nat
  | [] => 0
  | c :: l => if p c then leadP p l + 1 else 0
theorem leadP_eq {α : Type} (p : α → Bool) (l : List α) (j : Nat) (h : ∀ i, i < j → ∃ c, l[i]? = some c ∧ p c = true) (h2 : ∀ c, l[j]? = some c → p c = false) : leadP p l = j := by
  induction l generalizing j with
  | nil =>
    cases j with
    | zero => rfl
    | succ j => obtain ⟨c, hc, _⟩ := h 0 (by omega); simp at hc
  | cons c l ih =>
    cases j with
    | zero => have := h2 c (by simp); simp [leadP, this]
    | succ j =>
      obtain ⟨c', hc, hp⟩ := h 0 (by omega)
      simp at hc; subst hc
      simp only [leadP, hp, if_true]
      rw [ih j (fun i hi => by simpa using h (i + 1) (by omega)) (fun c hc => h2 c (by simpa using hc))]
theorem leadP_up {α : Type} {l : List α} {p : α → Bool} {j : Nat} (hr : ∀ i, i < j → ∃ c, l[i]? = some c ∧ p c = true) {c : α} (h : l[j]? = some c) (h1 : p c = true) : ∀ i, i < j + 1 → ∃ c, l[i]? = some c ∧ p c = true := by
  intro i hi
  by_cases e : i = j
  · subst e; exact ⟨c, h, h1⟩
  · exact hr i (by omega)
theorem leadP_lt {α : Type} (p : α → Bool) (l : List α) : (leadP p l < l.length) ↔ l.any (fun a => !p a) = true := by
  induction l with
  | nil => simp [leadP]
  | cons c l ih =>
    simp only [leadP, List.length_cons, List.any_cons, Bool.or_eq_true, Bool.not_eq_true', ← ih]
    cases hp : p c with
    | true => simp;
    | false => simp
def idxP {α : Type} (p : α → Bool) (l : List α) : Int := if leadP (fun a => !p a) l < l.length then (leadP (fun a => !p a) l : Int) else -1
theorem idxP_ge {α : Type} (p : α → Bool) (l : List α) : (decide (idxP p l ≥ 0)) = l.any p := by
  have := leadP_lt (fun a => !p a) l
  simp only [Bool.not_not] at this
  unfold idxP
  rw [Bool.eq_iff_iff]
  by_cases h : leadP (fun a => !p a) l < l.length
  · rw [if_pos h]; simp only [this.1 h, iff_true]; simp
  · rw [if_neg h]
    have h2 : ¬ l.any p = true := fun e => h (this.2 e)
    simp only [h2]; simp
theorem idxP_at {α : Type} {p : α → Bool} {l : List α} {j : Nat} (hr : ∀ i, i < j → ∃ c, l[i]? = some c ∧ (!p c) = true) {c : α} (h : l[j]? = some c) (h1 : p c = true) : idxP p l = j := by
  have hj := (List.getElem?_eq_some_iff.1 h).1
  have := leadP_eq (fun a => !p a) l j hr (fun c' hc => by rw [h] at hc; cases hc; simp [h1])
  unfold idxP; rw [this, if_pos hj]
theorem idxP_no {α : Type} {p : α → Bool} {l : List α} (hr : ∀ i, i < l.length → ∃ c, l[i]? = some c ∧ (!p c) = true) : idxP p l = -1 := by
  have := leadP_eq (fun a => !p a) l l.length hr (fun c' hc => by have := (List.getElem?_eq_some_iff.1 hc).1; omega)
  unfold idxP; rw [this, if_neg (by omega)]
def wordsL : List ByteArray := [⟨#[102, 117, 110]⟩, ⟨#[108, 101, 116]⟩, ⟨#[114, 101, 99]⟩, ⟨#[105, 110]⟩, ⟨#[105, 102]⟩, ⟨#[116, 104, 101, 110]⟩, ⟨#[101, 108, 115, 101]⟩, ⟨#[99, 97, 115, 101]⟩, ⟨#[111, 102]⟩, ⟨#[101, 110, 100]⟩, ⟨#[116, 114, 117, 101]⟩, ⟨#[102, 97, 108, 115, 101]⟩, ⟨#[105, 110, 116]⟩, ⟨#[98, 111, 111, 108]⟩, ⟨#[115, 116, 114]⟩, ⟨#[102, 108, 111, 97, 116]⟩, ⟨#[100, 121, 110]⟩, ⟨#[97, 110, 121]⟩, ⟨#[110, 111, 110, 101]⟩, ⟨#[116, 121, 112, 101]⟩]
def isWordB (s : ByteArray) : Bool := wordsL.any (fun w => s.toList == w.toList)
def isNameB (s : ByteArray) : Bool :=
  match s.data.toList with
  | [] => false
  | c :: _ => lowB c && runN inNameB s.data.toList == s.size && !isWordB s
def tagB (s : ByteArray) : Bool := isNameB s || isWordB s
theorem empty_iff (s : ByteArray) : (s.toList == (ByteArray.mk #[]).toList) = decide (s.size = 0) := by
  rw [Bool.eq_iff_iff]
  simp only [beq_iff_eq, decide_eq_true_eq]
  rw [loop_toList, loop_toList]
  show s.data.toList = [] ↔ s.data.size = 0
  rw [← Array.length_toList, List.length_eq_zero_iff]
end Go.Vm
set_option linter.unusedVariables false
namespace Go.Vm
open Go
structure Fq where
  tr : Tr
  rg : List (Nat × (Nat × List V))
def Fq.st (nt : Nat) (esc : Nat → Bool) (g : G) (x : Fq) : St := { nt := nt, tm := fun t => x.tr.get t, rg := fun t => rgGet x.rg t, esc := esc, g := g }
def Fq.put (nt : Nat) (x : Fq) (dst : Option Tmp) (v : V) : Option Fq :=
  match dst with
  | none => some x
  | some d => bif Nat.blt d nt && Nat.blt d 4000 then some { x with tr := x.tr.set 12 d v } else none
def quietOp (E : Env) (esc : Nat → Bool) (s : St) (o : Oper) : Bool :=
  match o.op with
  | .store _ a _ => match s.ev E a with
    | some (.loc _ _ _) => true
    | _ => false
  | _ => match clOf esc o with
    | .q => true
    | .r => true
    | .l => near esc o
    | _ => false
def sealAll (rs : List ResultVar) (E : Env) (s : St) : Option (List V) :=
  match resOf E s rs with
  | none => none
  | some vs => sealL s.g vs
section
variable (E : Env) (g : G)
mutual
def qC : Nat → FuncId → Nat → Code → Fq → Option (X × Fq)
  | 0, _, _, _, _ => none
  | n + 1, F, nt, c, x => match c with
    | .skip => some (.normal, x)
    | .ret => some (.ret, x)
    | .exit id => some (.exit id, x)
    | .seq a b => match qC n F nt a x with
      | none => none
      | some (.normal, y) => qC n F nt b y
      | some (.exit i, y) => some (.exit i, y)
      | some (.ret, y) => some (.ret, y)
    | .cond c a b => match (x.st nt (E.esc F) g).ev E c with
      | some (.p (.bool true)) => qC n F nt a x
      | some (.p (.bool false)) => qC n F nt b x
      | _ => none
    | .block id b => match qC n F nt b x with
      | none => none
      | some (.exit id', y) => bif Nat.beq id' id then some (.normal, y) else some (.exit id', y)
      | some (.normal, y) => some (.normal, y)
      | some (.ret, y) => some (.ret, y)
    | .loop b => match qC n F nt b x with
      | none => none
      | some (.normal, y) => qC n F nt (.loop b) y
      | some (.exit i, y) => some (.exit i, y)
      | some (.ret, y) => some (.ret, y)
    | .region id ops d => match d with
      | false => match qO n F nt ops (List.range ops.size) x with
        | none => none
        | some y => some (.normal, y)
      | true => bif tabOk ops (aheads ops) && ordOk (fun _ => true) (E.esc F) ops (aheads ops) 0 (List.range ops.size) then
          (match qO n F nt ops (List.range ops.size) x with
          | none => none
          | some y => some (.normal, y))
        else none
    | _ => none
def qO : Nat → FuncId → Nat → Array Oper → List Nat → Fq → Option Fq
  | 0, _, _, _, _, _ => none
  | n + 1, F, nt, ops, l, x => match l with
    | [] => some x
    | i :: l => match ops[i]? with
      | none => none
      | some o => match wants ops (x.st nt (E.esc F) g) o with
        | none => none
        | some false => match x.put nt o.dst .undef with
          | none => none
          | some y => qO n F nt ops l y
        | some true => match callOf E (x.st nt (E.esc F) g) o with
          | some (f, args) => match qF n f args with
            | none => none
            | some r => match x.put nt o.dst r with
              | none => none
              | some y => qO n F nt ops l y
          | none => bif quietOp E (E.esc F) (x.st nt (E.esc F) g) o then
              match stepV E (x.st nt (E.esc F) g) o with
              | none => none
              | some (v, s) => match rgAfter x.rg (rgKey E (x.st nt (E.esc F) g) o) s with
                | none => none
                | some rg => match Fq.put nt { tr := x.tr, rg := rg } o.dst v with
                  | none => none
                  | some y => qO n F nt ops l y
            else none
def qF : Nat → FuncId → List V → Option V
  | 0, _, _ => none
  | n + 1, f, args => match E.P.funcs[f]? with
    | none => none
    | some fn => match fn.body with
      | none => none
      | some body => bif Nat.ble args.length fn.ntmps && Nat.blt args.length 4000 then
          match qC n f fn.ntmps body { tr := Tr.args 0 .nil args, rg := [] } with
          | some (.exit _, _) => none
          | none => none
          | some (_, y) => match sealAll fn.results.toList E (y.st fn.ntmps (E.esc f) g) with
            | none => none
            | some ws => some (pack ws)
        else none
end
end
section
variable {E : Env} {nt : Nat} {esc : Nat → Bool} {g : G}
theorem fq_fr (x : Fq) : x.st nt esc g = Fr.st nt esc { tr := x.tr, rg := x.rg, g := g } := rfl
theorem putq {x y : Fq} {dst : Option Tmp} {v : V} (h : x.put nt dst v = some y) : (x.st nt esc g).put dst v = some (y.st nt esc g) := by
  have : Fr.put nt { tr := x.tr, rg := x.rg, g := g } dst v = some { tr := y.tr, rg := y.rg, g := g } := by
    unfold Fq.put at h
    unfold Fr.put
    cases dst with
    | none => cases h; rfl
    | some d =>
      simp only at h ⊢
      cases hc : Nat.blt d nt && Nat.blt d 4000 with
      | false => rw [hc] at h; cases h
      | true => rw [hc] at h; cases h; rfl
  exact put_fr this
theorem quiet_g {s s1 : St} {o : Oper} {v : V} (hq : quietOp E s.esc s o = true) (h : stepV E s o = some (v, s1)) : s1.g = s.g := by
  unfold quietOp at hq
  split at hq
  · rename_i t a x ho
    split at hq
    · rename_i i G off ha
      obtain ⟨dst, op, type, pos, after, guard⟩ := o
      simp only at ho
      subst ho
      simp only [stepV, ha] at h
      split at h
      · split at h
        · obtain ⟨y, hy, e⟩ := Option.map_eq_some_iff.1 h
          cases e
          rename_i hp _ _ _
          cases hp
          unfold St.storeCells at hy
          split at hy
          · simp only at hy
            split at hy
            · split at hy
              · obtain ⟨cs, _, rfl⟩ := Option.map_eq_some_iff.1 hy; rfl
              · cases hy
            · cases hy
          · cases hy
        · cases h
      · cases h
    · cases hq
  · split at hq
    · rename_i hc; rw [stepV_q hc h]
    · rename_i hc; rw [(stepV_r hc h).1]
    · rename_i hc
      obtain ⟨t, cs, _, rfl, _⟩ := near_step hc hq h
      rfl
    · cases hq
inductive Dos (E : Env) (cl : Nat → Bool) (ops : Array Oper) : List Nat → St → St → Prop where
  | nil {s} : Dos E cl ops [] s s
  | cons {i l s s' s'' o} : ops[i]? = some o → Do E cl ops i s s' → Dos E cl ops l s' s'' → Dos E cl ops (i :: l) s s''
theorem Dos.ev {cl : Nat → Bool} {ops : Array Oper} {l : List Nat} {s s' : St} {K : St → Prop} (h : Dos E cl ops l s s') (hk : K s') : Ev E (.ops ops l s K) := by
  induction h with
  | nil => exact .nil hk
  | cons _ hd _ ih => exact hd.ev (ih hk)
theorem Dos.evM {cl : Nat → Bool} {esc : Nat → Bool} {ops : Array Oper} {tab : List Nat} {K : St → Prop} {l : List Nat} {s s' : St} (h : Dos E cl ops l s s') (hk : K s') :
    ∀ (mask n : Nat), l.length ≤ n → ordOk cl esc ops tab mask l = true → EvM E cl esc ops tab K n mask s := by
  induction h with
  | nil =>
    intro mask n _ ho
    unfold ordOk at ho
    split at ho
    · rename_i hr; exact .done hr hk
    · cases ho
  | @cons i l s s' s'' o hoo hd _ ih =>
    intro mask n hn ho
    unfold ordOk at ho
    split at ho
    · rename_i j hf
      simp only [Bool.and_eq_true] at ho
      have hij := Nat.eq_of_beq_eq_true ho.1
      subst hij
      obtain ⟨m, rfl⟩ : ∃ m, n = m + 1 := ⟨n - 1, by simp only [List.length_cons] at hn; omega⟩
      exact .one false hf hoo rfl hd (ih hk _ m (by simp only [List.length_cons] at hn; omega) ho.2)
    · cases ho
structure TQ (E : Env) (g : G) (n : Nat) : Prop where
  c : ∀ F nt c x e y, qC E g n F nt c x = some (e, y) → ∀ R : X → St → Prop, R e (y.st nt (E.esc F) g) → Ev E (.code c (x.st nt (E.esc F) g) R)
  o : ∀ F nt ops l x y, qO E g n F nt ops l x = some y → Dos E (fun _ => true) ops l (x.st nt (E.esc F) g) (y.st nt (E.esc F) g)
  f : ∀ f args r, qF E g n f args = some r → ∀ g', g'.objs = g.objs → g'.toks = g.toks → Ev E (.call f args g' fun v g'' => v = r ∧ g'' = g')
theorem enter_q {fn : Func} {f : FuncId} {args : List V} {g0 g : G} (h : args.length ≤ 4000) (h1 : g0.objs = g.objs) (h2 : g0.toks = g.toks) (h3 : g.wo = g.objs.length) (h4 : g.wt = g.toks.length) : Fq.st fn.ntmps (E.esc f) g { tr := Tr.args 0 .nil args, rg := [] } = enter E fn f args g0 := by
  have := enter_st (E := E) (fn := fn) (f := f) (args := args) (g := g0) h
  rw [← this]
  unfold enterX Fr.st Fq.st
  simp only [St.mk.injEq, true_and]
  cases g; cases g0
  simp only at *
  subst h1 h2 h3 h4
  rfl
theorem tq (hm : E.P.follows .mixedOrders = true) (h1 : g.wo = g.objs.length) (h2 : g.wt = g.toks.length) : ∀ n, TQ E g n := by
  intro n
  induction n with
  | zero =>
    refine ⟨?_, ?_, ?_⟩
    · intro F nt c x e y h; simp [qC] at h
    · intro F nt ops l x y h; simp [qO] at h
    · intro f args r h; simp [qF] at h
  | succ n ih =>
    refine ⟨?_, ?_, ?_⟩
    · intro F nt c x e y h R hR
      unfold qC at h
      split at h
      · cases h; exact .skip hR
      · cases h; exact .ret hR
      · cases h; exact .exit hR
      · rename_i a b
        split at h
        · cases h
        · rename_i y' hy
          refine .seq (fun e' s' => e' = .normal ∧ s' = y'.st nt (E.esc F) g) (ih.c F nt a x _ y' hy _ ⟨rfl, rfl⟩) (fun s' hs => ?_) (fun e' s' he hs => absurd hs.1 he)
          obtain ⟨_, rfl⟩ := hs
          exact ih.c F nt b y' e y h R hR
        · rename_i i y' hy
          cases h
          refine .seq (fun e' s' => e' = .exit i ∧ s' = y.st nt (E.esc F) g) (ih.c F nt a x _ y hy _ ⟨rfl, rfl⟩) (fun s' hs => by cases hs.1) (fun e' s' he hs => ?_)
          obtain ⟨rfl, rfl⟩ := hs; exact hR
        · rename_i y' hy
          cases h
          refine .seq (fun e' s' => e' = .ret ∧ s' = y.st nt (E.esc F) g) (ih.c F nt a x _ y hy _ ⟨rfl, rfl⟩) (fun s' hs => by cases hs.1) (fun e' s' he hs => ?_)
          obtain ⟨rfl, rfl⟩ := hs; exact hR
      · rename_i c a b
        split at h
        · rename_i hc; exact .cond true hc (ih.c F nt a x e y h R hR)
        · rename_i hc; exact .cond false hc (ih.c F nt b x e y h R hR)
        · cases h
      · rename_i id b
        split at h
        · cases h
        · rename_i id' y' hy
          cases hb : Nat.beq id' id with
          | true =>
            rw [hb] at h
            cases h
            refine .block (fun e' s' => e' = .exit id' ∧ s' = y.st nt (E.esc F) g) (ih.c F nt b x _ y hy _ ⟨rfl, rfl⟩) (fun s' hs => by cases hs.1) (fun i s' hs => ?_) (fun s' hs => by cases hs.1)
            obtain ⟨he, rfl⟩ := hs
            cases he
            rw [if_pos (beq_eq hb)]; exact hR
          | false =>
            rw [hb] at h
            cases h
            refine .block (fun e' s' => e' = .exit id' ∧ s' = y.st nt (E.esc F) g) (ih.c F nt b x _ y hy _ ⟨rfl, rfl⟩) (fun s' hs => by cases hs.1) (fun i s' hs => ?_) (fun s' hs => by cases hs.1)
            obtain ⟨he, rfl⟩ := hs
            cases he
            rw [if_neg (fun e => by rw [e, Nat.beq_refl] at hb; cases hb)]; exact hR
        · rename_i y' hy
          cases h
          refine .block (fun e' s' => e' = .normal ∧ s' = y.st nt (E.esc F) g) (ih.c F nt b x _ y hy _ ⟨rfl, rfl⟩) (fun s' hs => by rw [hs.2]; exact hR) (fun i s' hs => by cases hs.1) (fun s' hs => by cases hs.1)
        · rename_i y' hy
          cases h
          refine .block (fun e' s' => e' = .ret ∧ s' = y.st nt (E.esc F) g) (ih.c F nt b x _ y hy _ ⟨rfl, rfl⟩) (fun s' hs => by cases hs.1) (fun i s' hs => by cases hs.1) (fun s' hs => by rw [hs.2]; exact hR)
      · rename_i b
        split at h
        · cases h
        · rename_i y' hy
          refine .loop (fun e' s' => e' = .normal ∧ s' = y'.st nt (E.esc F) g) (ih.c F nt b x _ y' hy _ ⟨rfl, rfl⟩) (fun s' hs => ?_) (fun e' s' he hs => absurd hs.1 he)
          obtain ⟨_, rfl⟩ := hs
          exact ih.c F nt _ y' e y h R hR
        · rename_i i y' hy
          cases h
          refine .loop (fun e' s' => e' = .exit i ∧ s' = y.st nt (E.esc F) g) (ih.c F nt b x _ y hy _ ⟨rfl, rfl⟩) (fun s' hs => by cases hs.1) (fun e' s' he hs => ?_)
          obtain ⟨rfl, rfl⟩ := hs; exact hR
        · rename_i y' hy
          cases h
          refine .loop (fun e' s' => e' = .ret ∧ s' = y.st nt (E.esc F) g) (ih.c F nt b x _ y hy _ ⟨rfl, rfl⟩) (fun s' hs => by cases hs.1) (fun e' s' he hs => ?_)
          obtain ⟨rfl, rfl⟩ := hs; exact hR
      · rename_i id ops d
        split at h
        · split at h
          · cases h
          · rename_i y' hy
            cases h
            exact .region ((ih.o F nt ops _ x y hy).ev hR)
        · cases ht : tabOk ops (aheads ops) && ordOk (fun _ => true) (E.esc F) ops (aheads ops) 0 (List.range ops.size) with
          | false => rw [ht] at h; cases h
          | true =>
            rw [ht] at h
            simp only [cond_true] at h
            simp only [Bool.and_eq_true] at ht
            split at h
            · cases h
            · rename_i y' hy
              cases h
              exact EvM.sound hm ht.1 ((ih.o F nt ops _ x y hy).evM hR 0 ops.size (by simp) ht.2)
      · cases h
    · intro F nt ops l x y h
      unfold qO at h
      split at h
      · cases h; exact .nil
      · rename_i i l
        split at h
        · cases h
        · rename_i o ho
          split at h
          · cases h
          · rename_i hw
            split at h
            · cases h
            · rename_i y' hy; exact .cons ho (.skip ho hw (putq hy)) (ih.o F nt ops l y' y h)
          · rename_i hw
            split at h
            · rename_i f args hc
              split at h
              · cases h
              · rename_i r hr
                split at h
                · cases h
                · rename_i y' hy
                  exact .cons ho (.call (v := r) (g := g) ho hw hc (ih.f f args r hr g rfl rfl) (fun _ => rfl) (putq hy)) (ih.o F nt ops l y' y h)
            · cases hq : quietOp E (E.esc F) (x.st nt (E.esc F) g) o with
              | false => rw [hq] at h; cases h
              | true =>
                rw [hq] at h
                simp only [cond_true] at h
                split at h
                · cases h
                · rename_i v s hs
                  split at h
                  · cases h
                  · rename_i rg hrg
                    split at h
                    · cases h
                    · rename_i y' hy
                      have hg : s.g = g := quiet_g (s := x.st nt (E.esc F) g) hq hs
                      have := st_after (x := { tr := x.tr, rg := x.rg, g := g }) (nt := nt) (esc := E.esc F) hs hrg
                      refine .cons ho (.step ho hw hs ?_) (ih.o F nt ops l y' y h)
                      rw [← this, hg]
                      exact putq hy
    · intro f args r h g' hg1 hg2
      unfold qF at h
      split at h
      · cases h
      · rename_i fn hfn
        split at h
        · cases h
        · rename_i body hbody
          cases hc : Nat.ble args.length fn.ntmps && Nat.blt args.length 4000 with
          | false => rw [hc] at h; cases h
          | true =>
            rw [hc] at h
            simp only [cond_true] at h
            simp only [Bool.and_eq_true] at hc
            have a1 : args.length ≤ fn.ntmps := Nat.le_of_ble_eq_true hc.1
            have a2 : args.length < 4000 := Nat.le_of_ble_eq_true hc.2
            have fin : ∀ e y, (e = .normal ∨ e = .ret) → qC E g n f fn.ntmps body { tr := Tr.args 0 .nil args, rg := [] } = some (e, y) → (match sealAll fn.results.toList E (y.st fn.ntmps (E.esc f) g) with
                | none => none
                | some ws => some (pack ws)) = some r → Ev E (.call f args g' fun v g'' => v = r ∧ g'' = g') := by
              intro e y he hq hs
              have hev := ih.c f fn.ntmps body _ e y hq (fun e' s' => e' = e ∧ s' = y.st fn.ntmps (E.esc f) g) ⟨rfl, rfl⟩
              rw [enter_q (E := E) (by omega) hg1 hg2 h1 h2] at hev
              refine .fnClean _ hfn hbody a1 hev fun e' s' hq => ?_
              obtain ⟨rfl, rfl⟩ := hq
              unfold sealAll at hs
              split at hs
              · cases hs
              · rename_i ws hws
                cases hs
                split at hws
                · cases hws
                · rename_i vs hvs
                  exact ⟨he, vs, ws, hvs, hws, by rw [hg1]; exact h1, by rw [hg2]; exact h2, rfl, rfl⟩
            split at h
            · cases h
            · cases h
            · rename_i e y hne hq
              refine fin e y ?_ hq h
              cases e with
              | normal => exact Or.inl rfl
              | ret => exact Or.inr rfl
              | exit i => exact absurd rfl (hne i)
theorem pure_quiet (hm : E.P.follows .mixedOrders = true) {n : Nat} {f : FuncId} {args : List V} {r : V} (h : ∀ g, qF E g n f args = some r) : Pure E f args r :=
  fun g => (tq (g := { g with wo := g.objs.length, wt := g.toks.length }) hm rfl rfl n).f f args r (h _) g rfl rfl
end
end Go.Vm
set_option linter.unusedVariables false
namespace Go.Vm
open Go Go.Proofs
attribute [local irreducible] wpL
set_option maxRecDepth 20000 in
theorem indexS_ok {v : V} {a : List ByteArray} (hv : Rd eStr v a) (s : ByteArray) (ha : a.length < 2 ^ 60) : Pure En 188 [v, .p (.str s)] (.p (.int .i64 (idxP (fun w => s.toList == w.toList) a))) := by
  refine pure_walk [(0, v), (1, .p (.str s))] Tryz.func188 rfl rfl rfl fun g hwo hwt => ?_
  show Wc En _ (Tryz.f188.body.getD .skip) [] (Sx 19 _ _ _ _ _ _)
  unfold Tryz.f188
  simp only [Option.getD_some]
  refine wc_seq ?_
  refine wc_reg fun K hK => ?_
  refine x_assign rfl rfl rfl ?_
  refine x_nil (hK _ ?_); clear hK K
  refine go_seq ?_
  refine wc_seq ?_
  refine wc_seq ?_
  refine wc_reg fun K hK => ?_
  refine x_move rfl rfl rfl ?_
  refine x_len rfl rfl rfl (by first | assumption | exact Rd.enc) und35 ?_
  refine x_move rfl rfl rfl ?_
  refine x_nil (hK _ ?_); clear hK K
  refine go_seq ?_
  refine wc_block ?_
  refine xc_loop [(0, _), (1, _), (7, _)] [] (fun j : Nat => [(8, .p (.int .i64 j))]) (fun j : Nat => j ≤ a.length ∧ ∀ i, i < j → ∃ c, a[i]? = some c ∧ (!(s.toList == c.toList)) = true) (fun j : Nat => a.length - j) 0 (by repeat (first | exact trivial | refine And.intro rfl ?_)) (by repeat (first | exact trivial | refine And.intro rfl ?_)) ⟨Nat.zero_le _, fun i hi => by omega⟩ ?_
  rintro j R hR1 hR2 ⟨hj, hr⟩ b rb
  refine wc_seq ?_
  refine wc_reg fun K hK => ?_
  refine x_bin rfl rfl rfl rfl rfl ?_
  refine x_nil (hK _ ?_); clear hK K
  refine go_seq ?_
  refine wc_seq ?_
  refine xc_cond _ rfl (fun hc0 => ?_) (fun hc0 => ?_)
  · skip
    have hlt : j < a.length := by simp at hc0; omega
    have e1 : a[j]? = some a[j] := by simp
    refine wc_skip ?_
    refine go_seq ?_
    refine wc_seq ?_
    refine wc_block ?_
    refine wc_seq ?_
    refine wc_reg fun K hK => ?_
    refine x_move rfl rfl rfl ?_
    refine x_assign rfl rfl rfl ?_
    refine x_nil (hK _ ?_); clear hK K
    refine go_seq ?_
    refine wc_seq ?_
    refine wc_reg fun K hK => ?_
    refine x_move rfl rfl rfl ?_
    refine x_move rfl rfl rfl ?_
    refine x_move rfl rfl rfl ?_
    refine x_ia rfl rfl rfl (by first | assumption | exact Rd.enc) rfl und35 sz9 rfl (by assumption) rfl ?_
    refine x_ldR rfl rfl rfl isag9 rfl ?_
    refine x_bin rfl rfl rfl rfl rfl ?_
    refine x_nil (hK _ ?_); clear hK K
    refine go_seq ?_
    refine xc_cond _ rfl (fun hc1 => ?_) (fun hc1 => ?_)
    · skip
      refine wc_seq ?_
      refine wc_reg fun K hK => ?_
      refine x_move rfl rfl rfl ?_
      refine x_assign rfl rfl rfl ?_
      refine x_nil (hK _ ?_); clear hK K
      refine go_seq ?_
      refine wc_ret ?_
      refine go_blk_ret ?_
      refine go_seq_ret ?_
      refine hR2 _ _ (by simp) ?_
      refine go_blk_ret ?_
      refine go_seq_ret ?_
      exact x_end1 (Or.inr rfl) rfl rfl rfl rfl rfl rfl (ieq (idxP_at hr e1 hc1).symm)
    · skip
      refine wc_skip ?_
      refine go_blk ?_
      refine go_seq ?_
      refine wc_reg fun K hK => ?_
      refine x_inc rfl rfl rfl rfl (by omega) ?_
      refine x_move rfl rfl rfl ?_
      refine x_nil (hK _ ?_); clear hK K
      exact hR1 (j + 1) _ _ _ _ ⟨hlt, leadP_up hr e1 (by rw [hc1]; rfl)⟩ (by omega) (by repeat (first | exact trivial | refine And.intro rfl ?_)) (by repeat (first | exact trivial | refine And.intro rfl ?_))
  · skip
    refine wc_exit ?_
    refine go_seq_exit ?_
    refine hR2 _ _ (by simp) ?_
    refine go_blk_exit ?_
    refine go_seq ?_
    refine wc_seq ?_
    refine wc_reg fun K hK => ?_
    refine x_assign rfl rfl rfl ?_
    refine x_nil (hK _ ?_); clear hK K
    refine go_seq ?_
    refine wc_ret ?_
    exact x_end1 (Or.inr rfl) rfl rfl rfl rfl rfl rfl (ieq (idxP_no (fun i hi => hr i (by simp at hc0; omega))).symm)
set_option maxRecDepth 20000 in
theorem containsS_ok {v : V} {a : List ByteArray} (hv : Rd eStr v a) (s : ByteArray) (ha : a.length < 2 ^ 60) : Pure En 167 [v, .p (.str s)] (.p (.bool (a.any (fun w => s.toList == w.toList)))) := by
  refine pure_walk [(0, v), (1, .p (.str s))] Tryz.func167 rfl rfl rfl fun g hwo hwt => ?_
  show Wc En _ (Tryz.f167.body.getD .skip) [] (Sx 9 _ _ _ _ _ _)
  unfold Tryz.f167
  simp only [Option.getD_some]
  refine wc_seq ?_
  refine wc_reg fun K hK => ?_
  refine x_assign rfl rfl rfl ?_
  refine x_nil (hK _ ?_); clear hK K
  refine go_seq ?_
  refine wc_seq ?_
  refine wc_reg fun K hK => ?_
  refine x_move rfl rfl rfl ?_
  refine x_move rfl rfl rfl ?_
  refine x_call rfl rfl rfl (by repeat (first | exact ho_nil | refine ho_cons (by first | rfl | exact rd_ho (by assumption)) ?_)) okf188 (indexS_ok hv s ha _) ?_
  refine x_bin rfl rfl rfl rfl rfl ?_
  refine x_assign rfl rfl rfl ?_
  refine x_nil (hK _ ?_); clear hK K
  refine go_seq ?_
  refine wc_ret ?_
  exact x_end1 (Or.inr rfl) rfl rfl rfl rfl rfl rfl (veq (by rw [← idxP_ge]))
theorem words_ok : Pure En 193 [] (.p (.sl (wordsL.map eStr))) := pure_quiet mixed (n := 100) fun g => by kernel_rfl
set_option maxRecDepth 20000 in
theorem isWord_ok (s : ByteArray) : Pure En 175 [.p (.str s)] (.p (.bool (isWordB s))) := by
  refine pure_walk [(0, .p (.str s))] Tryz.func175 rfl rfl rfl fun g hwo hwt => ?_
  show Wc En _ (Tryz.f175.body.getD .skip) [] (Sx 6 _ _ _ _ _ _)
  unfold Tryz.f175
  simp only [Option.getD_some]
  refine wc_seq ?_
  refine wc_reg fun K hK => ?_
  refine x_assign rfl rfl rfl ?_
  refine x_nil (hK _ ?_); clear hK K
  refine go_seq ?_
  refine wc_seq ?_
  refine wc_reg fun K hK => ?_
  refine x_call rfl rfl rfl (by repeat (first | exact ho_nil | refine ho_cons (by first | rfl | exact rd_ho (by assumption)) ?_)) okf193 (words_ok _) ?_
  refine x_move rfl rfl rfl ?_
  refine x_call rfl rfl rfl (by repeat (first | exact ho_nil | refine ho_cons (by first | rfl | exact rd_ho (by assumption)) ?_)) okf167 (containsS_ok (Rd.p wordsL) s (by decide) _) ?_
  refine x_assign rfl rfl rfl ?_
  refine x_nil (hK _ ?_); clear hK K
  refine go_seq ?_
  refine wc_ret ?_
  exact x_end1 (Or.inr rfl) rfl rfl rfl rfl rfl rfl rfl
set_option maxRecDepth 20000 in
theorem isName_ok (s : ByteArray) (hs : s.size < 2 ^ 60) : Pure En 145 [.p (.str s)] (.p (.bool (isNameB s))) := by
  refine pure_walk [(0, .p (.str s))] Tryz.func145 rfl rfl rfl fun g hwo hwt => ?_
  show Wc En _ (Tryz.f145.body.getD .skip) [] (Sx 22 _ _ _ _ _ _)
  unfold Tryz.f145
  simp only [Option.getD_some]
  refine wc_seq ?_
  refine wc_reg fun K hK => ?_
  refine x_assign rfl rfl rfl ?_
  refine x_nil (hK _ ?_); clear hK K
  refine go_seq ?_
  refine wc_seq ?_
  refine wc_reg fun K hK => ?_
  refine x_move rfl rfl rfl ?_
  refine x_bin rfl rfl rfl rfl rfl ?_
  refine x_moveS rfl rfl rfl (fun hg5 => ?_) (fun hg5 => ?_)
  · skip
    have hne : 0 < s.size := by
      have h5 : (!decide (s.size = 0)) = true := by rw [← empty_iff]; exact hg5
      simp only [Bool.not_eq_true', decide_eq_false_iff_not] at h5
      omega
    obtain ⟨c, l, hcl⟩ : ∃ c l, s.data.toList = c :: l := by
      cases h : s.data.toList with
      | nil => have : s.data.toList.length = s.size := by simp
               rw [h] at this; simp at this; omega
      | cons c l => exact ⟨c, l, rfl⟩
    have e0 : s[(0 : Int).toNat]? = some s[0] := by simp [hne]
    have e1 : s[0] = c := by
      have := (str_at hne).2
      rw [hcl] at this
      simpa using this.symm
    rw [e1] at e0
    refine x_move rfl rfl rfl ?_
    refine x_index rfl rfl rfl rfl und9 (by decide) e0 ?_
    refine x_call rfl rfl rfl (by repeat (first | exact ho_nil | refine ho_cons (by first | rfl | exact rd_ho (by assumption)) ?_)) okf172 (low_ok _ _) ?_
    refine x_pickT rfl rfl rfl rfl ?_
    refine x_moveS rfl rfl rfl (fun hg10 => ?_) (fun hg10 => ?_)
    · skip
      refine x_move rfl rfl rfl ?_
      refine x_call rfl rfl rfl (by repeat (first | exact ho_nil | refine ho_cons (by first | rfl | exact rd_ho (by assumption)) ?_)) okf173 (run_ok s hs _) ?_
      refine x_move rfl rfl rfl ?_
      refine x_lenStr rfl rfl rfl und9 ?_
      refine x_bin rfl rfl rfl rfl rfl ?_
      refine x_pickT rfl rfl rfl rfl ?_
      refine x_moveS rfl rfl rfl (fun hg17 => ?_) (fun hg17 => ?_)
      · skip
        refine x_move rfl rfl rfl ?_
        refine x_call rfl rfl rfl (by repeat (first | exact ho_nil | refine ho_cons (by first | rfl | exact rd_ho (by assumption)) ?_)) okf175 (isWord_ok s _) ?_
        refine x_not rfl rfl rfl ?_
        refine x_pickT rfl rfl rfl rfl ?_
        refine x_assign rfl rfl rfl ?_
        refine x_nil (hK _ ?_); clear hK K
        refine go_seq ?_
        refine wc_ret ?_
        exact x_end1 (Or.inr rfl) rfl rfl rfl rfl rfl rfl (by congr 2; simp [isNameB, hcl, hg10]; simp [hcl] at hg17; intro _; omega)
      · skip
        refine x_skip rfl rfl ?_
        refine x_skip rfl rfl ?_
        refine x_skip rfl rfl ?_
        refine x_pickF rfl rfl rfl rfl ?_
        refine x_assign rfl rfl rfl ?_
        refine x_nil (hK _ ?_); clear hK K
        refine go_seq ?_
        refine wc_ret ?_
        exact x_end1 (Or.inr rfl) rfl rfl rfl rfl rfl rfl (by congr 2; simp [isNameB, hcl, hg10]; simp [hcl] at hg17; intro h; omega)
    · skip
      refine x_skip rfl rfl ?_
      refine x_skip rfl rfl ?_
      refine x_skip rfl rfl ?_
      refine x_skip rfl rfl ?_
      refine x_skip rfl rfl ?_
      refine x_pickF rfl rfl rfl rfl ?_
      refine x_move rfl rfl rfl ?_
      refine x_skip rfl rfl ?_
      refine x_skip rfl rfl ?_
      refine x_skip rfl rfl ?_
      refine x_pickF rfl rfl rfl rfl ?_
      refine x_assign rfl rfl rfl ?_
      refine x_nil (hK _ ?_); clear hK K
      refine go_seq ?_
      refine wc_ret ?_
      exact x_end1 (Or.inr rfl) rfl rfl rfl rfl rfl rfl (by congr 2; simp [isNameB, hcl, hg10])
  · skip
    refine x_skip rfl rfl ?_
    refine x_skip rfl rfl ?_
    refine x_skip rfl rfl ?_
    refine x_pickF rfl rfl rfl rfl ?_
    refine x_move rfl rfl rfl ?_
    refine x_skip rfl rfl ?_
    refine x_skip rfl rfl ?_
    refine x_skip rfl rfl ?_
    refine x_skip rfl rfl ?_
    refine x_skip rfl rfl ?_
    refine x_pickF rfl rfl rfl rfl ?_
    refine x_move rfl rfl rfl ?_
    refine x_skip rfl rfl ?_
    refine x_skip rfl rfl ?_
    refine x_skip rfl rfl ?_
    refine x_pickF rfl rfl rfl rfl ?_
    refine x_assign rfl rfl rfl ?_
    refine x_nil (hK _ ?_); clear hK K
    refine go_seq ?_
    refine wc_ret ?_
    exact x_end1 (Or.inr rfl) rfl rfl rfl rfl rfl rfl (by
    have h5 : (!decide (s.size = 0)) = false := by rw [← empty_iff]; exact hg5
    have : s.data.toList = [] := by
      apply List.eq_nil_of_length_eq_zero; simp at h5; simpa using h5
    congr 2; simp [isNameB, this])
set_option maxRecDepth 20000 in
theorem tag_ok (s : ByteArray) (hs : s.size < 2 ^ 60) : Pure En 149 [.p (.str s)] (.p (.bool (tagB s))) := by
  refine pure_walk [(0, .p (.str s))] Tryz.func149 rfl rfl rfl fun g hwo hwt => ?_
  show Wc En _ (Tryz.f149.body.getD .skip) [] (Sx 9 _ _ _ _ _ _)
  unfold Tryz.f149
  simp only [Option.getD_some]
  refine wc_seq ?_
  refine wc_reg fun K hK => ?_
  refine x_assign rfl rfl rfl ?_
  refine x_nil (hK _ ?_); clear hK K
  refine go_seq ?_
  refine wc_seq ?_
  refine wc_reg fun K hK => ?_
  refine x_move rfl rfl rfl ?_
  refine x_call rfl rfl rfl (by repeat (first | exact ho_nil | refine ho_cons (by first | rfl | exact rd_ho (by assumption)) ?_)) okf145 (isName_ok s hs _) ?_
  refine x_moveS rfl rfl rfl (fun hg5 => ?_) (fun hg5 => ?_)
  · skip
    refine x_skip rfl rfl ?_
    refine x_skip rfl rfl ?_
    refine x_pickT rfl rfl rfl rfl ?_
    refine x_assign rfl rfl rfl ?_
    refine x_nil (hK _ ?_); clear hK K
    refine go_seq ?_
    refine wc_ret ?_
    exact x_end1 (Or.inr rfl) rfl rfl rfl rfl rfl rfl (by simp_all [tagB])
  · skip
    refine x_move rfl rfl rfl ?_
    refine x_call rfl rfl rfl (by repeat (first | exact ho_nil | refine ho_cons (by first | rfl | exact rd_ho (by assumption)) ?_)) okf175 (isWord_ok s _) ?_
    refine x_pickF rfl rfl rfl rfl ?_
    refine x_assign rfl rfl rfl ?_
    refine x_nil (hK _ ?_); clear hK K
    refine go_seq ?_
    refine wc_ret ?_
    exact x_end1 (Or.inr rfl) rfl rfl rfl rfl rfl rfl (by simp_all [tagB])
end Go.Vm
namespace Go.Vm
open Go
theorem ba_beq (a b : ByteArray) : (a == b) = true ↔ a = b := by
  show (a.data == b.data) = true ↔ a = b
  rw [beq_iff_eq]
  exact ByteArray.ext_iff.symm
instance lawfulBytes : LawfulBEq ByteArray where
  eq_of_beq h := (ba_beq _ _).1 h
  rfl := (ba_beq _ _).2 rfl
def esS (l : List ByteArray) : List (PV × V × Nat) := l.zipIdx.map fun x => (.str x.1, .p (.bool true), x.2)
theorem esS_snoc (l : List ByteArray) (s : ByteArray) : esS (l ++ [s]) = esS l ++ [(.str s, .p (.bool true), l.length)] := by
  simp [esS, List.zipIdx_append]
theorem esS_ok (l : List ByteArray) : (esS l).all (fun e => keyOk .string e.1) = true := by
  rw [List.all_eq_true]
  intro e he
  obtain ⟨x, _, rfl⟩ := List.mem_map.1 he
  rfl
theorem find_esS (l : List ByteArray) (s : ByteArray) : findKey (esS l) (.str s) = if s ∈ l then some (V.p (.bool true)) else none := by
  have key : ∀ (l : List ByteArray) (n : Nat), findKey ((l.zipIdx n).map fun x => ((.str x.1, .p (.bool true), x.2) : PV × V × Nat)) (.str s) = if s ∈ l then some (V.p (.bool true)) else none := by
    intro l
    induction l with
    | nil => intro n; simp [findKey]
    | cons a l ih =>
      intro n
      simp only [List.zipIdx_cons, List.map_cons, findKey, keyEq, List.mem_cons]
      by_cases h : s = a
      · simp [h]
      · have : (s == a) = false := by simpa using h
        simp only [this, Bool.false_eq_true, if_false, h, false_or]
        exact ih (n + 1)
  exact key l 0
theorem findS (l : List ByteArray) (s : ByteArray) : (match findKey (esS l) (.str s) with | some v => (if false then .tup [v, .p (.bool true)] else v) | none => (if false then .tup [.p (.bool false), .p (.bool false)] else .p (.bool false))) = V.p (.bool (decide (s ∈ l))) := by
  rw [find_esS]
  by_cases h : s ∈ l <;> simp [h]
theorem findS_no {l : List ByteArray} {s : ByteArray} (h : decide (s ∈ l) = false) : findKey (esS l) (.str s) = none := by
  rw [find_esS, if_neg (by simpa using h)]
theorem esS_take {a : List ByteArray} {j : Nat} (h : j < a.length) : esS (a.take (j + 1)) = esS (a.take j) ++ [(.str a[j], .p (.bool true), j)] := by
  rw [List.take_succ_eq_append_getElem h, esS_snoc]
  simp [Nat.min_eq_left (Nat.le_of_lt h)]
theorem nodup_take {a : List ByteArray} {j : Nat} (h : j < a.length) (hn : (a.take j).Nodup) (hm : decide (a[j] ∈ a.take j) = false) : (a.take (j + 1)).Nodup := by
  rw [List.take_succ_eq_append_getElem h, List.nodup_append]
  refine ⟨hn, by simp, fun x hx y hy => ?_⟩
  simp at hy
  subst hy
  rintro rfl
  simp at hm
  exact hm hx
theorem nodup_not {a : List ByteArray} {j : Nat} (h : j < a.length) (hm : decide (a[j] ∈ a.take j) = true) : decide a.Nodup = false := by
  simp at hm ⊢
  intro hn
  have : a = a.take j ++ a.drop j := (List.take_append_drop j a).symm
  rw [this, List.nodup_append] at hn
  exact hn.2.2 a[j] hm a[j] (by rw [List.drop_eq_getElem_cons h]; exact List.mem_cons_self) rfl
end Go.Vm
