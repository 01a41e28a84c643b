/- The engine: the rules once more, each by its operation's own form, so that it is found at once. No program in sight. -/
import Derived.Test.YtdfkcjjbflcafaaGreatEngF
namespace Go.Proofs.YtdfkcjjbflcafaaGreat
open Go.RowKit
set_option linter.unusedVariables false
set_option linter.unusedSimpArgs false
/-- The program has a function of that number, with a body. -/
def Cal (P : Program) (f : FuncId) : Prop := ∃ fn c, P.funcs[f]? = some fn ∧ (fn.name == "runtime.NumGoroutine") = false ∧ fn.body = some c
theorem mh {a : Blk} {r : Hp} : a ∈ a :: r := List.mem_cons_self ..
theorem mt {a b : Blk} {r : Hp} (h : a ∈ r) : a ∈ b :: r := List.mem_cons_of_mem _ h
theorem p0 {x : Blk} {r : Hp} : (x :: r).Perm (x :: r) := .refl _
theorem p1 {x y : Blk} {r : Hp} : (x :: y :: r).Perm (y :: x :: r) := .swap _ _ _
theorem p2 {x y z : Blk} {r : Hp} : (x :: y :: z :: r).Perm (y :: z :: x :: r) := p1.trans (p1.cons _)
theorem p3 {x y z u : Blk} {r : Hp} : (x :: y :: z :: u :: r).Perm (y :: z :: u :: x :: r) := p1.trans (p2.cons _)
theorem p4 {x y z u v : Blk} {r : Hp} : (x :: y :: z :: u :: v :: r).Perm (y :: z :: u :: v :: x :: r) := p1.trans (p3.cons _)
theorem p5 {x y z u v t : Blk} {r : Hp} : (x :: y :: z :: u :: v :: t :: r).Perm (y :: z :: u :: v :: t :: x :: r) := p1.trans (p4.cons _)
def nth {α : Type} : List α → Nat → Option α
  | [], _ => none
  | x :: _, 0 => some x
  | _ :: r, i + 1 => nth r i
def fl (pl : List (Nat × Nat)) : Array Value → List (Nat × Value) → Option (Array Value)
  | cs, [] => some cs
  | cs, (i, v) :: r => match nth pl i with
    | some (off, sz) => bif Nat.beq v.cells.size sz && Nat.ble (off + sz) cs.size then fl pl (putAt cs off v.cells.toList) r else none
    | none => none
theorem nth_eq {α : Type} (l : List α) : ∀ i, nth l i = l.toArray[i]? := by
  induction l with
  | nil => intro i; simp [nth]
  | cons x r ih =>
    intro i
    cases i with
    | zero => simp [nth]
    | succ i => simp only [nth, ih i]; simp
theorem foldl_putAt (l : List Value) : ∀ (cs : Array Value) (off k : Nat), (l.zipIdx k).foldl (fun cs (x : Value × Nat) => cs.setIfInBounds (off + x.2) x.1) cs = putAt cs (off + k) l := by
  induction l with
  | nil => intro cs off k; rfl
  | cons v r ih => intro cs off k; simp only [List.zipIdx_cons, List.foldl_cons, putAt]; rw [ih]; rfl
theorem size_putAt (l : List Value) : ∀ (cs : Array Value) (o : Nat), (putAt cs o l).size = cs.size := by
  induction l with
  | nil => intro cs o; rfl
  | cons v r ih => intro cs o; simp only [putAt]; rw [ih]; simp
theorem fl_fill (pl : List (Nat × Nat)) : ∀ (vs : List (Nat × Value)) (cs out : Array Value), fl pl cs vs = some out → Instr.fill (pl.toArray[·]?) cs vs = some out := by
  intro vs
  induction vs with
  | nil => intro cs out h; exact h
  | cons p r ih =>
    obtain ⟨i, v⟩ := p
    intro cs out h
    simp only [fl, nth_eq] at h
    simp only [Instr.fill]
    split at h
    · rename_i off sz hp
      simp only [hp]
      cases hc : (Nat.beq v.cells.size sz && Nat.ble (off + sz) cs.size) with
      | false => rw [hc] at h; cases h
      | true =>
        rw [hc] at h
        simp only [cond_true] at h
        simp only [Bool.and_eq_true, beq_iff, Nat.ble_eq] at hc
        rw [if_neg (by simp [hc.1]; omega)]
        have e : (v.cells.zipIdx.foldl (fun cs (x : Value × Nat) => cs.setIfInBounds (off + x.2) x.1) cs) = putAt cs off v.cells.toList := by
          have := foldl_putAt v.cells.toList cs off 0
          rw [Nat.add_zero] at this
          rw [← this, ← Array.foldl_toList]
          simp
        have := ih _ _ h
        rw [← e] at this
        exact this
    · cases h
section
variable {P : Program} {T : Tab} {n : Nat} {w0 : World} {mu : List Nat} {l : Fm} {hp : Hp} {Q : Exit → Fm → Hp → Prop} {all : Array Oper} {rest : List Oper} {dd : Option Tmp} {ty : TypeId} {pos : String} {af : Array Edge} {gg : Option (Nat × Bool)}
theorem x_move {x : Operand} {v : Value} (hx : ev l x = some v) : Hy P n w0 mu l hp ⟨dd, .move x, ty, pos, af, gg⟩ v := hy_move rfl hx
theorem x_assign {x : Operand} {v : Value} (hx : ev l x = some v) : Hy P n w0 mu l hp ⟨dd, .assign x, ty, pos, af, gg⟩ v := hy_assign rfl hx
theorem x_or {c x : Operand} {b q : Bool} (hc : ev l c = some (.bool b)) (hx : ev l x = some (gv (wnt b false) (.bool q))) : Hy P n w0 mu l hp ⟨dd, .pick c (.const (.bool true)) x, ty, pos, af, gg⟩ (.bool (b || q)) := hy_or rfl hc hx
theorem x_and {c x : Operand} {b q : Bool} (hc : ev l c = some (.bool b)) (hx : ev l x = some (gv (wnt b true) (.bool q))) : Hy P n w0 mu l hp ⟨dd, .pick c x (.const (.bool false)), ty, pos, af, gg⟩ (.bool (b && q)) := hy_and rfl hc hx
theorem x_pick {c x y : Operand} {b : Bool} {u v : Value} (hc : ev l c = some (.bool b)) (hx : ev l x = some u) (hy : ev l y = some v) : Hy P n w0 mu l hp ⟨dd, .pick c x y, ty, pos, af, gg⟩ (bif b then u else v) := hy_pick rfl hc hx hy
theorem x_not {t : TypeId} {x : Operand} {b : Bool} (hx : ev l x = some (.bool b)) : Hy P n w0 mu l hp ⟨dd, .unOp .not t x, ty, pos, af, gg⟩ (.bool (!b)) := hy_not rfl hx
theorem x_extract {x : Operand} {i : Nat} {vs : Array Value} {v : Value} (hx : ev l x = some (.tuple vs)) (hi : nth vs.toList i = some v) : Hy P n w0 mu l hp ⟨dd, .extract x i, ty, pos, af, gg⟩ v := hy_extract rfl hx (by rw [nth_eq] at hi; simpa using hi)
theorem x_nilCheck {x : Operand} {p : Addr} (hx : ev l x = some (.pointer (some p))) : Hy P n w0 mu l hp ⟨dd, .nilCheck x, ty, pos, af, gg⟩ (.pointer (some p)) := hy_nilCheck rfl hx
theorem x_lss {t u : TypeId} {x y : Operand} {k : IntKind} {p q : Int} (hx : ev l x = some (.int k p)) (hy : ev l y = some (.int k q)) : Hy P n w0 mu l hp ⟨dd, .binOp .lss t x y u, ty, pos, af, gg⟩ (.bool (decide (p < q))) := hy_lss rfl hx hy
theorem x_leq {t u : TypeId} {x y : Operand} {k : IntKind} {p q : Int} (hx : ev l x = some (.int k p)) (hy : ev l y = some (.int k q)) : Hy P n w0 mu l hp ⟨dd, .binOp .leq t x y u, ty, pos, af, gg⟩ (.bool (decide (p ≤ q))) := hy_leq rfl hx hy
theorem x_gtr {t u : TypeId} {x y : Operand} {k : IntKind} {p q : Int} (hx : ev l x = some (.int k p)) (hy : ev l y = some (.int k q)) : Hy P n w0 mu l hp ⟨dd, .binOp .gtr t x y u, ty, pos, af, gg⟩ (.bool (decide (q < p))) := hy_gtr rfl hx hy
theorem x_geq {t u : TypeId} {x y : Operand} {k : IntKind} {p q : Int} (hx : ev l x = some (.int k p)) (hy : ev l y = some (.int k q)) : Hy P n w0 mu l hp ⟨dd, .binOp .geq t x y u, ty, pos, af, gg⟩ (.bool (decide (q ≤ p))) := hy_geq rfl hx hy
theorem x_eql {t u : TypeId} {x y : Operand} {k : IntKind} {p q : Int} (hx : ev l x = some (.int k p)) (hy : ev l y = some (.int k q)) : Hy P n w0 mu l hp ⟨dd, .binOp .eql t x y u, ty, pos, af, gg⟩ (.bool (decide (p = q))) := hy_eql rfl hx hy
theorem x_neq {t u : TypeId} {x y : Operand} {k : IntKind} {p q : Int} (hx : ev l x = some (.int k p)) (hy : ev l y = some (.int k q)) : Hy P n w0 mu l hp ⟨dd, .binOp .neq t x y u, ty, pos, af, gg⟩ (.bool (!decide (p = q))) := hy_neq rfl hx hy
theorem x_eqlb (ok : TabOk P T) {t u : TypeId} {x y : Operand} {p q : Bool} (hx : ev l x = some (.bool p)) (hy : ev l y = some (.bool q)) (ht : mem T.bo t = true) : Hy P n w0 mu l hp ⟨dd, .binOp .eql t x y u, ty, pos, af, gg⟩ (.bool (p == q)) := hy_eqlb rfl (ok.gbo ht) hx hy
theorem x_neqb (ok : TabOk P T) {t u : TypeId} {x y : Operand} {p q : Bool} (hx : ev l x = some (.bool p)) (hy : ev l y = some (.bool q)) (ht : mem T.bo t = true) : Hy P n w0 mu l hp ⟨dd, .binOp .neq t x y u, ty, pos, af, gg⟩ (.bool (p != q)) := hy_neqb rfl (ok.gbo ht) hx hy
theorem x_inc {t u : TypeId} {x y : Operand} {i : Nat} (hx : ev l x = some (.int .i64 ((i : Nat) : Int))) (hy : ev l y = some (.int .i64 1)) (h1 : i < 9223372036854775807) : Hy P n w0 mu l hp ⟨dd, .binOp .add t x y u, ty, pos, af, gg⟩ (.int .i64 ((i + 1 : Nat) : Int)) := y_inc rfl hx hy h1
theorem x_add {t u : TypeId} {x y : Operand} {p q : Int} (hx : ev l x = some (.int .i64 p)) (hy : ev l y = some (.int .i64 q)) (h0 : -9223372036854775808 ≤ p + q) (h1 : p + q ≤ 9223372036854775807) : Hy P n w0 mu l hp ⟨dd, .binOp .add t x y u, ty, pos, af, gg⟩ (.int .i64 (p + q)) := hy_addI rfl hx hy h0 h1
theorem x_sub {t u : TypeId} {x y : Operand} {p q : Int} (hx : ev l x = some (.int .i64 p)) (hy : ev l y = some (.int .i64 q)) (h0 : -9223372036854775808 ≤ p - q) (h1 : p - q ≤ 9223372036854775807) : Hy P n w0 mu l hp ⟨dd, .binOp .sub t x y u, ty, pos, af, gg⟩ (.int .i64 (p - q)) := hy_subI rfl hx hy h0 h1
theorem x_mul {t u : TypeId} {x y : Operand} {p q : Int} (hx : ev l x = some (.int .i64 p)) (hy : ev l y = some (.int .i64 q)) (h0 : -9223372036854775808 ≤ p * q) (h1 : p * q ≤ 9223372036854775807) : Hy P n w0 mu l hp ⟨dd, .binOp .mul t x y u, ty, pos, af, gg⟩ (.int .i64 (p * q)) := hy_mulI rfl hx hy h0 h1
theorem x_addW {t u : TypeId} {x y : Operand} {k : IntKind} {p q : Int} (hx : ev l x = some (.int k p)) (hy : ev l y = some (.int k q)) : Hy P n w0 mu l hp ⟨dd, .binOp .add t x y u, ty, pos, af, gg⟩ (.int k (k.wrap (p + q))) := hy_add rfl hx hy
theorem x_subW {t u : TypeId} {x y : Operand} {k : IntKind} {p q : Int} (hx : ev l x = some (.int k p)) (hy : ev l y = some (.int k q)) : Hy P n w0 mu l hp ⟨dd, .binOp .sub t x y u, ty, pos, af, gg⟩ (.int k (k.wrap (p - q))) := hy_sub rfl hx hy
theorem x_convI (ok : TabOk P T) {s t : TypeId} {x : Operand} {k : IntKind} {p : Int} (hx : ev l x = some (.int k p)) (hs : lk T.ik s = some k) (ht : lk T.ik t = some .i64) (h0 : -9223372036854775808 ≤ p) (h1 : p ≤ 9223372036854775807) : Hy P n w0 mu l hp ⟨dd, .convert s t x, ty, pos, af, gg⟩ (.int .i64 p) := y_convI ok rfl hx hs ht h0 h1
theorem x_convU (ok : TabOk P T) {s t : TypeId} {x : Operand} {k : IntKind} {p : Int} (hx : ev l x = some (.int k p)) (hs : lk T.ik s = some k) (ht : lk T.ik t = some .u64) (h0 : 0 ≤ p) (h1 : p ≤ 18446744073709551615) : Hy P n w0 mu l hp ⟨dd, .convert s t x, ty, pos, af, gg⟩ (.int .u64 p) := y_convU ok rfl hx hs ht h0 h1
theorem x_conv (ok : TabOk P T) {s t : TypeId} {x : Operand} {k k' : IntKind} {p : Int} (hx : ev l x = some (.int k p)) (hs : lk T.ik s = some k) (ht : lk T.ik t = some k') : Hy P n w0 mu l hp ⟨dd, .convert s t x, ty, pos, af, gg⟩ (.int k' (k'.wrap p)) := y_conv ok rfl hx hs ht
theorem x_len (ok : TabOk P T) {x : Operand} {t e s : Nat} {p : Option Addr} {c m : Nat} (hx : ev l x = some (.slice p m c)) (ht : lk T.sl t = some (e, s)) : Hy P n w0 mu l hp ⟨dd, .call { callee := .builtin .len, args := #[x], argTypes := #[t] }, ty, pos, af, gg⟩ (.int .i64 m) := y_len ok rfl hx ht
theorem x_field (ok : TabOk P T) {t : TypeId} {x : Operand} {k b off k' off' : Nat} {os : List Nat} (hx : ev l x = some (.pointer (some ⟨b, off, none⟩))) (ho : lk T.fo t = some os) (hk : nth os k = some k') (he : off + k' = off') : Hy P n w0 mu l hp ⟨dd, .fieldAddr t x k, ty, pos, af, gg⟩ (.pointer (some ⟨b, off', none⟩)) := y_field ok rfl hx ho (by rw [nth_eq] at hk; simpa using hk) he
theorem x_indexN (ok : TabOk P T) {t e : TypeId} {x y : Operand} {b off m c s i off' : Nat} {k : IntKind} (hx : ev l x = some (.slice (some ⟨b, off, none⟩) m c)) (hy : ev l y = some (.int k ((i : Nat) : Int))) (ht : lk T.sl t = some (e, s)) (h1 : i < m) (he : off + i * s = off') : Hy P n w0 mu l hp ⟨dd, .indexAddr t x y, ty, pos, af, gg⟩ (.pointer (some ⟨b, off', none⟩)) := y_indexN ok rfl hx hy ht h1 he
theorem x_indexRN (ok : TabOk P T) {t e : TypeId} {x y : Operand} {b off m s i off' : Nat} {k : IntKind} (hx : ev l x = some (.pointer (some ⟨b, off, none⟩))) (hy : ev l y = some (.int k ((i : Nat) : Int))) (ht : lk T.ar t = some (m, e, s)) (h1 : i < m) (he : off + i * s = off') : Hy P n w0 mu l hp ⟨dd, .indexAddr t x y, ty, pos, af, gg⟩ (.pointer (some ⟨b, off', none⟩)) := y_indexRN ok rfl hx hy ht h1 he
theorem x_index (ok : TabOk P T) {t e : TypeId} {x y : Operand} {b off m c s off' : Nat} {k : IntKind} {i : Int} (hx : ev l x = some (.slice (some ⟨b, off, none⟩) m c)) (hy : ev l y = some (.int k i)) (ht : lk T.sl t = some (e, s)) (h0 : 0 ≤ i) (h1 : i < m) (he : off + i.toNat * s = off') : Hy P n w0 mu l hp ⟨dd, .indexAddr t x y, ty, pos, af, gg⟩ (.pointer (some ⟨b, off', none⟩)) := y_index ok rfl hx hy ht h0 h1 he
theorem x_indexR (ok : TabOk P T) {t e : TypeId} {x y : Operand} {b off m s off' : Nat} {k : IntKind} {i : Int} (hx : ev l x = some (.pointer (some ⟨b, off, none⟩))) (hy : ev l y = some (.int k i)) (ht : lk T.ar t = some (m, e, s)) (h0 : 0 ≤ i) (h1 : i < m) (he : off + i.toNat * s = off') : Hy P n w0 mu l hp ⟨dd, .indexAddr t x y, ty, pos, af, gg⟩ (.pointer (some ⟨b, off', none⟩)) := y_indexR ok rfl hx hy ht h0 h1 he
theorem x_load (ok : TabOk P T) {t : TypeId} {x : Operand} {b off : Nat} {v : Value} {cs : Array Value} {tb : TypeId} (hs : mem T.sc t = true) (hx : ev l x = some (.pointer (some ⟨b, off, none⟩))) (hm : (⟨b, cs, tb⟩ : Blk) ∈ hp) (hv : nth cs.toList off = some v) : Hy P n w0 mu l hp ⟨dd, .load t x, ty, pos, af, gg⟩ v := y_load ok rfl hs hx hm (by rw [nth_eq] at hv; simpa using hv)
theorem x_load0 (ok : TabOk P T) {t : TypeId} {x : Operand} {b off : Nat} {v : Value} (hs : mem T.sc t = true) (hx : ev l x = some (.pointer (some ⟨b, off, none⟩))) (hc : w0.cell? ⟨b, off, none⟩ = some v) (hmu : b ∉ mu) : Hy P n w0 mu l hp ⟨dd, .load t x, ty, pos, af, gg⟩ v := y_load0 ok rfl hs hx hc hmu
theorem x_loadA (ok : TabOk P T) {t : TypeId} {x : Operand} {b off sz : Nat} {vs : List Value} {cs : Array Value} {tb : TypeId} (hs : mem T.ag t = true) (hx : ev l x = some (.pointer (some ⟨b, off, none⟩))) (hz : lk T.sz t = some sz) (hm : (⟨b, cs, tb⟩ : Blk) ∈ hp) (hv : (cs.toList.drop off).take sz = vs) (hl : vs.length = sz) : Hy P n w0 mu l hp ⟨dd, .load t x, ty, pos, af, gg⟩ (.agg vs.toArray) := y_loadA ok rfl hs hx hz hm hv hl
theorem x_loadA0 (ok : TabOk P T) {t : TypeId} {x : Operand} {b off sz : Nat} {vs : List Value} (hs : mem T.ag t = true) (hx : ev l x = some (.pointer (some ⟨b, off, none⟩))) (hz : lk T.sz t = some sz) (hr : w0.rangeAt b off vs) (hl : vs.length = sz) (hmu : b ∉ mu) : Hy P n w0 mu l hp ⟨dd, .load t x, ty, pos, af, gg⟩ (.agg vs.toArray) := y_loadA0 ok rfl hs hx (by rw [hl]; exact hz) hr hmu
theorem x_build (ok : TabOk P T) {t : TypeId} {ps : List (Nat × Operand)} {vs : List (Nat × Value)} {z : Value} {pl : List (Nat × Nat)} {zc out out' : Array Value} (hz : lk T.zs t = some z) (hzc : z.cells = zc) (hpl : lk T.pl t = some pl) (hv : evp l ps = some vs) (hf : fl pl zc vs = some out) (hn : out = out') : Hy P n w0 mu l hp ⟨dd, .build t ps.toArray, ty, pos, af, gg⟩ (.agg out') := by
  subst hn
  subst hzc
  exact y_build ok rfl hz hpl hv (fl_fill _ _ _ _ hf)
theorem x_call {f : FuncId} {xs : List Operand} {vs : List Value} {tys : Array TypeId} {v : Value} (hcal : Cal P f) (hv : evs l xs = some vs)
    (hc : ∀ w, Good w0 mu hp w → Fn P f vs.toArray w [] (fun u _ => u = v)) : Hy P n w0 mu l hp ⟨dd, .call { callee := .value (.func f), args := xs.toArray, argTypes := tys }, ty, pos, af, gg⟩ v := by
  obtain ⟨fn, c, hf, hname, hb⟩ := hcal
  exact y_call rfl hf hname hb hv hc
theorem z_alloc (ok : TabOk P T) {t d : Nat} {z : Value} {cs : List Value} (hd : Nat.blt d n = true) (hz : lk T.zs t = some z) (hc : z.cells = cs.toArray)
    (h : ∀ b, Ops P n w0 mu all rest ((d, .pointer (some ⟨b, 0, none⟩)) :: l) (⟨b, cs.toArray, t⟩ :: hp) Q) : Ops P n w0 mu all (⟨some d, .alloc t, ty, pos, af, none⟩ :: rest) l hp Q := o_alloc ok rfl hd hz hc h
theorem z_box {t d : Nat} {x : Operand} {v : Value} {cs : List Value} (hd : Nat.blt d n = true) (hx : ev l x = some v) (hc : v.cells = cs.toArray)
    (h : ∀ b, Ops P n w0 mu all rest ((d, .pointer (some ⟨b, 0, none⟩)) :: l) (⟨b, cs.toArray, t⟩ :: hp) Q) : Ops P n w0 mu all (⟨some d, .box t x, ty, pos, af, none⟩ :: rest) l hp Q := o_box rfl hd hx hc h
theorem z_store (ok : TabOk P T) {t : TypeId} {x y : Operand} {b off sz : Nat} {v : Value} {vs : List Value} {cs cs' : Array Value} {tb : TypeId} {hp' : Hp}
    (hx : ev l x = some (.pointer (some ⟨b, off, none⟩))) (hy : ev l y = some v) (hvc : v.cells = vs.toArray) (hs : lk T.sz t = some sz) (hl : vs.length = sz) (hperm : (⟨b, cs, tb⟩ :: hp').Perm hp) (hv1 : vs.all (·.oneCell') = true) (hlt : off + vs.length ≤ cs.size) (hput : putAt cs off vs = cs')
    (h : Ops P n w0 mu all rest l (⟨b, cs', tb⟩ :: hp') Q) : Ops P n w0 mu all (⟨none, .store t x y, ty, pos, af, none⟩ :: rest) l hp Q := o_store ok rfl hx hy hvc hs hl hperm hv1 hlt hput h
def rep (zl : List Value) : Nat → List Value
  | 0 => []
  | k + 1 => rep zl k ++ zl
def flS (sz : Nat) : Array Value → List (Nat × Value) → Option (Array Value)
  | cs, [] => some cs
  | cs, (i, v) :: r => bif Nat.beq v.cells.size sz && Nat.ble (i * sz + sz) cs.size then flS sz (putAt cs (i * sz) v.cells.toList) r else none
theorem flS_fill (sz : Nat) : ∀ (vs : List (Nat × Value)) (cs out : Array Value), flS sz cs vs = some out → Instr.fill (fun i => some (i * sz, sz)) cs vs = some out := by
  intro vs
  induction vs with
  | nil => intro cs out h; exact h
  | cons p r ih =>
    obtain ⟨i, v⟩ := p
    intro cs out h
    simp only [flS] at h
    simp only [Instr.fill]
    cases hc : (Nat.beq v.cells.size sz && Nat.ble (i * sz + sz) cs.size) with
    | false => rw [hc] at h; cases h
    | true =>
      rw [hc] at h
      simp only [cond_true] at h
      simp only [Bool.and_eq_true, beq_iff, Nat.ble_eq] at hc
      rw [if_neg (by simp [hc.1]; omega)]
      have e : (v.cells.zipIdx.foldl (fun cs (x : Value × Nat) => cs.setIfInBounds (i * sz + x.2) x.1) cs) = putAt cs (i * sz) v.cells.toList := by
        have := foldl_putAt v.cells.toList cs (i * sz) 0
        rw [Nat.add_zero] at this
        rw [← this, ← Array.foldl_toList]
        simp
      have := ih _ _ h
      rw [← e] at this
      exact this
theorem rep_eq (zc : Array Value) (hz : 0 < zc.size) (len : Nat) : (Array.range (len * zc.size)).map (fun i => zc[i % zc.size]!) = (rep zc.toList len).toArray := by
  have key : ∀ len, (List.range (len * zc.size)).map (fun i => zc[i % zc.size]!) = rep zc.toList len := by
    intro len
    induction len with
    | zero => simp [rep]
    | succ k ih =>
      rw [Nat.succ_mul, List.range_add, List.map_append, ih, rep]
      congr 1
      rw [List.map_map]
      apply List.ext_getElem
      · simp
      · intro i h1 h2
        have hi : i < zc.size := by simpa using h2
        simp [Nat.mul_add_mod_of_lt hi, Nat.add_mod, Nat.mod_eq_of_lt hi, hi]
  apply Array.ext'
  rw [Array.toList_map, Array.toList_range, key]
theorem z_bslice (ok : TabOk P T) {t d len e sz : Nat} {z : Value} {ps : List (Nat × Operand)} {vs : List (Nat × Value)} {zl : List Value} {out : Array Value} {out' : List Value} (hd : Nat.blt d n = true) (ht : lk T.sl t = some (e, sz)) (hz : lk T.zs e = some z) (hzc : z.cells = zl.toArray) (hzs : Nat.beq zl.length sz = true) (hpos : (Nat.blt 0 (len * sz) && Nat.ble (len * sz) 16777216) = true) (hv : evp l ps = some vs) (hf : flS sz (rep zl len).toArray vs = some out) (hn : out = out'.toArray)
    (h : ∀ b, Ops P n w0 mu all rest ((d, .slice (some ⟨b, 0, none⟩) len len) :: l) (⟨b, out'.toArray, e⟩ :: hp) Q) : Ops P n w0 mu all (⟨some d, .buildSlice t len ps.toArray, ty, pos, af, none⟩ :: rest) l hp Q := by
  subst hn
  have hzs' : zl.length = sz := by simpa using hzs
  rw [Bool.and_eq_true] at hpos
  obtain ⟨hp1, hp2⟩ := hpos
  replace hp1 : 0 < len * sz := by simpa using hp1
  replace hp2 : len * sz ≤ 16777216 := Nat.le_of_ble_eq_true hp2
  have hsp : 0 < sz := by rcases Nat.eq_zero_or_pos sz with h | h; · rw [h] at hp1; simp at hp1
                          · exact h
  refine ops_new (b := 0) rfl hd out'.toArray e rfl (fun b => .slice (some ⟨b, 0, none⟩) len len) (fun a w hk _ => ?_) h
  have e1 : (ps.toArray.map fun x => (x.1, a.eval x.2)) = vs.toArray := by rw [← hk.evp hv]; simp
  obtain ⟨hu, hs⟩ := ok.gsl ht
  have hr := rep_eq z.cells (by rw [hzc]; simpa [hzs'] using hsp) len
  have hsz : z.cells.size = sz := by rw [hzc]; simpa using hzs'
  rw [hsz] at hr
  simp only [execOp, Instr.buildSlice, Sem.run_bind, run_underlying hu w, Result.andThen_ok, run_sizeOf hs w, e1]
  rw [if_neg (by omega)]
  simp only [Sem.run_bind, Sem.run_pure, Result.andThen_ok, if_neg (show ¬ len * sz = 0 by omega), run_zero (ok.gzs hz) w, hsz, hr]
  rw [show z.cells.toList = zl by rw [hzc]]
  simp only [List.toList_toArray, flS_fill _ _ _ _ hf]
  simp [go_sem]
theorem z_call {f : FuncId} {d : Nat} {xs : List Operand} {vs : List Value} {tys : Array TypeId} {R : Value → Hp → Prop} (hcal : Cal P f) (hd : Nat.blt d n = true) (hv : evs l xs = some vs)
    (hc : ∀ w, Good w0 mu hp w → Fn P f vs.toArray w [] R) (h : ∀ v hn, R v hn → Ops P n w0 mu all rest ((d, v) :: l) (hn ++ hp) Q) : Ops P n w0 mu all (⟨some d, .call { callee := .value (.func f), args := xs.toArray, argTypes := tys }, ty, pos, af, none⟩ :: rest) l hp Q := by
  obtain ⟨fn, c, hf, hname, hb⟩ := hcal
  exact o_call rfl hd hf hname hb hv hc h
theorem z_callM {f : FuncId} {d : Nat} {xs : List Operand} {vs : List Value} {tys : Array TypeId} {R : Value → Hp → Prop} (hcal : Cal P f) (hi hp' : Hp) (hd : Nat.blt d n = true) (hv : evs l xs = some vs) (hperm : (hi ++ hp').Perm hp)
    (hc : ∀ w, Good w0 mu (hi ++ hp') w → Fn P f vs.toArray w (hi.map (·.b)) R) (h : ∀ v hn, R v hn → Ops P n w0 mu all rest ((d, v) :: l) (hn ++ hp') Q) : Ops P n w0 mu all (⟨some d, .call { callee := .value (.func f), args := xs.toArray, argTypes := tys }, ty, pos, af, none⟩ :: rest) l hp Q := by
  obtain ⟨fn, c, hf, hname, hb⟩ := hcal
  exact ops_callM hi hp' rfl rfl hd hf hname hb hv hperm hc h
end
end Go.Proofs.YtdfkcjjbflcafaaGreat
