/- The engine: the rules, their facts on types by the table. No program in sight. -/
import Derived.Test.YtdfkcjjbflcafaaGreatEngD
namespace Go.Proofs.YtdfkcjjbflcafaaGreat
open Go.RowKit
set_option linter.unusedVariables false
set_option linter.unusedSimpArgs false
section
variable {P : Program} {T : Tab} {n : Nat} {w0 : World} {mu : List Nat} {l : Fm} {hp : Hp} {Q : Exit → Fm → Hp → Prop} {all : Array Oper} {rest : List Oper} {o : Oper} {ty : TypeId} {pos : String} {af : Array Edge} {op : Op}
theorem ops_id {o : Oper} (h : Ops P n w0 mu all (o :: rest) l hp Q) : Ops P n w0 mu all (o :: rest) l hp Q := h
theorem y_load (ok : TabOk P T) {t : TypeId} {x : Operand} {b off : Nat} {v : Value} {cs : Array Value} {tb : TypeId} (hop : o.op = .load t x) (hs : mem T.sc t = true) (hx : ev l x = some (.pointer (some ⟨b, off, none⟩)))
    (hm : (⟨b, cs, tb⟩ : Blk) ∈ hp) (hv : cs[off]? = some v) : Hy P n w0 mu l hp o v := hy_load hop (ok.gsc hs) hx ⟨b, cs, tb⟩ hm rfl hv
theorem y_load0 (ok : TabOk P T) {t : TypeId} {x : Operand} {b off : Nat} {v : Value} (hop : o.op = .load t x) (hs : mem T.sc t = true) (hx : ev l x = some (.pointer (some ⟨b, off, none⟩)))
    (hc : w0.cell? ⟨b, off, none⟩ = some v) (hmu : b ∉ mu) : Hy P n w0 mu l hp o v := hy_load0 hop (ok.gsc hs) hx hc hmu
theorem y_loadA (ok : TabOk P T) {t : TypeId} {x : Operand} {b off sz : Nat} {vs : List Value} {cs : Array Value} {tb : TypeId} (hop : o.op = .load t x) (hs : mem T.ag t = true) (hx : ev l x = some (.pointer (some ⟨b, off, none⟩)))
    (hz : lk T.sz t = some sz) (hm : (⟨b, cs, tb⟩ : Blk) ∈ hp) (hv : (cs.toList.drop off).take sz = vs) (hl : vs.length = sz) : Hy P n w0 mu l hp o (.agg vs.toArray) := hy_loadA vs hop (ok.gag hs) hx ⟨b, cs, tb⟩ hm rfl (by rw [hl]; exact ok.gsz hz) (by rw [hl]; exact hv)
theorem y_loadA0 (ok : TabOk P T) {t : TypeId} {x : Operand} {b off : Nat} {vs : List Value} (hop : o.op = .load t x) (hs : mem T.ag t = true) (hx : ev l x = some (.pointer (some ⟨b, off, none⟩)))
    (hz : lk T.sz t = some vs.length) (hr : w0.rangeAt b off vs) (hmu : b ∉ mu) : Hy P n w0 mu l hp o (.agg vs.toArray) := hy_loadA0 vs hop (ok.gag hs) hx (ok.gsz hz) hr hmu
theorem y_field (ok : TabOk P T) {off' : Nat} {t : TypeId} {x : Operand} {k b off k' : Nat} {os : List Nat} (hop : o.op = .fieldAddr t x k) (hx : ev l x = some (.pointer (some ⟨b, off, none⟩))) (ho : lk T.fo t = some os) (hk : os[k]? = some k') (he : off + k' = off') : Hy P n w0 mu l hp o (.pointer (some ⟨b, off', none⟩)) := he ▸ hy_field hop hx (ok.gfo ho hk)
theorem y_index (ok : TabOk P T) {off' : Nat} {t e : TypeId} {x y : Operand} {b off m c s : Nat} {k : IntKind} {i : Int} (hop : o.op = .indexAddr t x y) (hx : ev l x = some (.slice (some ⟨b, off, none⟩) m c)) (hy : ev l y = some (.int k i)) (ht : lk T.sl t = some (e, s)) (h0 : 0 ≤ i) (h1 : i < m) (he : off + i.toNat * s = off') :
    Hy P n w0 mu l hp o (.pointer (some ⟨b, off', none⟩)) := he ▸ hy_index hop (ok.gsl ht).1 (ok.gsl ht).2 hx hy h0 h1
theorem y_indexN (ok : TabOk P T) {off' : Nat} {t e : TypeId} {x y : Operand} {b off m c s i : Nat} {k : IntKind} (hop : o.op = .indexAddr t x y) (hx : ev l x = some (.slice (some ⟨b, off, none⟩) m c)) (hy : ev l y = some (.int k ((i : Nat) : Int))) (ht : lk T.sl t = some (e, s)) (h1 : i < m) (he : off + i * s = off') :
    Hy P n w0 mu l hp o (.pointer (some ⟨b, off', none⟩)) := he ▸ hy_index hop (ok.gsl ht).1 (ok.gsl ht).2 hx hy (by omega) (by omega)
theorem y_indexRN (ok : TabOk P T) {off' : Nat} {t e : TypeId} {x y : Operand} {b off m s i : Nat} {k : IntKind} (hop : o.op = .indexAddr t x y) (hx : ev l x = some (.pointer (some ⟨b, off, none⟩))) (hy : ev l y = some (.int k ((i : Nat) : Int))) (ht : lk T.ar t = some (m, e, s)) (h1 : i < m) (he : off + i * s = off') :
    Hy P n w0 mu l hp o (.pointer (some ⟨b, off', none⟩)) := he ▸ hy_indexR hop (ok.gar ht).1 (ok.gar ht).2 hx hy (by omega) (by omega)
/-- A counter. -/
theorem y_inc {t u : TypeId} {x y : Operand} {i : Nat} (hop : o.op = .binOp .add t x y u) (hx : ev l x = some (.int .i64 ((i : Nat) : Int))) (hy : ev l y = some (.int .i64 1)) (h1 : i < 9223372036854775807) : Hy P n w0 mu l hp o (.int .i64 ((i + 1 : Nat) : Int)) := by
  have := hy_addI (P := P) (n := n) (w0 := w0) (mu := mu) (hp := hp) hop hx hy (by omega) (by omega)
  simpa using this
theorem y_indexR (ok : TabOk P T) {off' : Nat} {t e : TypeId} {x y : Operand} {b off m s : Nat} {k : IntKind} {i : Int} (hop : o.op = .indexAddr t x y) (hx : ev l x = some (.pointer (some ⟨b, off, none⟩))) (hy : ev l y = some (.int k i)) (ht : lk T.ar t = some (m, e, s)) (h0 : 0 ≤ i) (h1 : i < m) (he : off + i.toNat * s = off') :
    Hy P n w0 mu l hp o (.pointer (some ⟨b, off', none⟩)) := he ▸ hy_indexR hop (ok.gar ht).1 (ok.gar ht).2 hx hy h0 h1
theorem y_len (ok : TabOk P T) {x : Operand} {t e s : Nat} {p : Option Addr} {c m : Nat} (hop : o.op = .call { callee := .builtin .len, args := #[x], argTypes := #[t] }) (hx : ev l x = some (.slice p m c)) (ht : lk T.sl t = some (e, s)) : Hy P n w0 mu l hp o (.int .i64 m) := hy_len hop (ok.gsl ht).1 hx
theorem y_conv (ok : TabOk P T) {s t : TypeId} {x : Operand} {k k' : IntKind} {p : Int} (hop : o.op = .convert s t x) (hx : ev l x = some (.int k p)) (hs : lk T.ik s = some k) (ht : lk T.ik t = some k') : Hy P n w0 mu l hp o (.int k' (k'.wrap p)) := hy_conv hop (ok.gik hs) (ok.gik ht) hx
theorem wrap_u64 {x : Int} (h0 : 0 ≤ x) (h1 : x ≤ 18446744073709551615) : IntKind.u64.wrap x = x := by
  simp [IntKind.wrap, IntKind.bits, IntKind.signed]
  omega
theorem y_convI (ok : TabOk P T) {s t : TypeId} {x : Operand} {k : IntKind} {p : Int} (hop : o.op = .convert s t x) (hx : ev l x = some (.int k p)) (hs : lk T.ik s = some k) (ht : lk T.ik t = some .i64) (h0 : -9223372036854775808 ≤ p) (h1 : p ≤ 9223372036854775807) : Hy P n w0 mu l hp o (.int .i64 p) := by
  have := y_conv (n := n) (w0 := w0) (mu := mu) (hp := hp) ok hop hx hs ht
  rwa [wrap_in h0 h1] at this
theorem y_convU (ok : TabOk P T) {s t : TypeId} {x : Operand} {k : IntKind} {p : Int} (hop : o.op = .convert s t x) (hx : ev l x = some (.int k p)) (hs : lk T.ik s = some k) (ht : lk T.ik t = some .u64) (h0 : 0 ≤ p) (h1 : p ≤ 18446744073709551615) : Hy P n w0 mu l hp o (.int .u64 p) := by
  have := y_conv (n := n) (w0 := w0) (mu := mu) (hp := hp) ok hop hx hs ht
  rwa [wrap_u64 h0 h1] at this
theorem y_eqlb (ok : TabOk P T) {t u : TypeId} {x y : Operand} {p q : Bool} (hop : o.op = .binOp .eql t x y u) (hx : ev l x = some (.bool p)) (hy : ev l y = some (.bool q)) (ht : mem T.bo t = true) : Hy P n w0 mu l hp o (.bool (p == q)) := hy_eqlb hop (ok.gbo ht) hx hy
theorem y_neqb (ok : TabOk P T) {t u : TypeId} {x y : Operand} {p q : Bool} (hop : o.op = .binOp .neq t x y u) (hx : ev l x = some (.bool p)) (hy : ev l y = some (.bool q)) (ht : mem T.bo t = true) : Hy P n w0 mu l hp o (.bool (p != q)) := hy_neqb hop (ok.gbo ht) hx hy
theorem TabOk.gpl (ok : TabOk P T) {t : Nat} {ps : List (Nat × Nat)} (h : lk T.pl t = some ps) : places P t = some ps.toArray := by
  have := List.all_eq_true.1 ok.pl _ (lk_mem h)
  simp only [placesOf, beq_iff_eq] at this
  unfold places
  split at this
  · rename_i fs hu
    rw [← Array.toArray_toList (xs := fs), List.mapM_toArray, this]
    rfl
  · cases this
theorem y_build (ok : TabOk P T) {t : TypeId} {ps : List (Nat × Operand)} {vs : List (Nat × Value)} {z : Value} {pl : List (Nat × Nat)} {out : Array Value} (hop : o.op = .build t ps.toArray) (hz : lk T.zs t = some z) (hpl : lk T.pl t = some pl)
    (hv : evp l ps = some vs) (hf : Instr.fill (pl.toArray[·]?) z.cells vs = some out) : Hy P n w0 mu l hp o (.agg out) := hy_build hop (ok.gzs hz) (ok.gpl hpl) hv hf
theorem o_alloc (ok : TabOk P T) {t d : Nat} {z : Value} {cs : List Value} (hop : op = .alloc t) (hd : Nat.blt d n = true) (hz : lk T.zs t = some z) (hc : z.cells = cs.toArray)
    (h : ∀ b, Ops P n w0 mu all rest ((d, .pointer (some ⟨b, 0, none⟩)) :: l) (⟨b, cs.toArray, t⟩ :: hp) Q) : Ops P n w0 mu all (⟨some d, op, ty, pos, af, none⟩ :: rest) l hp Q :=
  ops_alloc hop rfl hd (ok.gzs hz) (by rw [hc]; exact h)
theorem o_box {t d : Nat} {x : Operand} {v : Value} {cs : List Value} (hop : op = .box t x) (hd : Nat.blt d n = true) (hx : ev l x = some v) (hc : v.cells = cs.toArray)
    (h : ∀ b, Ops P n w0 mu all rest ((d, .pointer (some ⟨b, 0, none⟩)) :: l) (⟨b, cs.toArray, t⟩ :: hp) Q) : Ops P n w0 mu all (⟨some d, op, ty, pos, af, none⟩ :: rest) l hp Q :=
  ops_box hop rfl hd hx (by rw [hc]; exact h)
theorem o_store (ok : TabOk P T) {t : TypeId} {x y : Operand} {b off sz : Nat} {v : Value} {vs : List Value} {cs cs' : Array Value} {tb : TypeId} {hp' : Hp} (hop : op = .store t x y)
    (hx : ev l x = some (.pointer (some ⟨b, off, none⟩))) (hy : ev l y = some v) (hvc : v.cells = vs.toArray) (hs : lk T.sz t = some sz) (hl : vs.length = sz) (hperm : (⟨b, cs, tb⟩ :: hp').Perm hp) (hv1 : vs.all (·.oneCell') = true) (hlt : off + vs.length ≤ cs.size) (hput : putAt cs off vs = cs')
    (h : Ops P n w0 mu all rest l (⟨b, cs', tb⟩ :: hp') Q) : Ops P n w0 mu all (⟨none, op, ty, pos, af, none⟩ :: rest) l hp Q :=
  ops_store vs hop rfl rfl hx hy hvc hv1 (by rw [hl]; exact ok.gsz hs) hperm hlt (by rw [hput]; exact h)
theorem y_call {f : FuncId} {fn : Func} {c : Code} {xs : List Operand} {vs : List Value} {tys : Array TypeId} {v : Value} (hop : o.op = .call { callee := .value (.func f), args := xs.toArray, argTypes := tys }) (hf : P.funcs[f]? = some fn) (hname : (fn.name == "runtime.NumGoroutine") = false) (hb : fn.body = some c) (hv : evs l xs = some vs)
    (hc : ∀ w, Good w0 mu hp w → Fn P f vs.toArray w [] (fun u _ => u = v)) : Hy P n w0 mu l hp o v := hy_call hop hf hname hb hv hc
theorem o_call {f : FuncId} {d : Nat} {fn : Func} {c : Code} {xs : List Operand} {vs : List Value} {tys : Array TypeId} {R : Value → Hp → Prop} (hop : op = .call { callee := .value (.func f), args := xs.toArray, argTypes := tys }) (hd : Nat.blt d n = true)
    (hf : P.funcs[f]? = some fn) (hname : (fn.name == "runtime.NumGoroutine") = false) (hb : fn.body = some c) (hv : evs l xs = some vs)
    (hc : ∀ w, Good w0 mu hp w → Fn P f vs.toArray w [] R) (h : ∀ v hn, R v hn → Ops P n w0 mu all rest ((d, v) :: l) (hn ++ hp) Q) : Ops P n w0 mu all (⟨some d, op, ty, pos, af, none⟩ :: rest) l hp Q :=
  ops_call hop rfl hd hf hname hb hv hc h
end
end Go.Proofs.YtdfkcjjbflcafaaGreat
