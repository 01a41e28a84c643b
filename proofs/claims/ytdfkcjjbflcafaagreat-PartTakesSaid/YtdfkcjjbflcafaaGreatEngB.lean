/- The engine: the rules of operations that yield a value and turn nothing that is known. No program in sight. -/
import Derived.Test.YtdfkcjjbflcafaaGreatEngA
namespace Go.Proofs.YtdfkcjjbflcafaaGreat
open Go.RowKit
set_option linter.unusedVariables false
set_option linter.unusedSimpArgs false

def dlt : Option Tmp → Nat → Bool
  | none, _ => true
  | some d, n => Nat.blt d n
theorem dlt_lt {d : Option Tmp} {n : Nat} (h : dlt d n = true) : ∀ t, d = some t → t < n := by
  intro t ht; subst ht
  simp only [dlt, Nat.blt_eq] at h
  exact h

/-- The operation yields v, whatever else has come, and what is known stays known. -/
def Hy (P : Program) (n : Nat) (w0 : World) (mu : List Nat) (l : Fm) (hp : Hp) (o : Oper) (v : Value) : Prop :=
  ∀ a w, Knows n l a → Good w0 mu hp w → ∀ (K : Act → World → Prop) (Q : Exit → Act → World → Prop), (∀ w', Good w0 mu hp w' → K (a.put o.dst v) w') → o.wp P a w K Q

section
variable {P : Program} {n : Nat} {w0 : World} {mu : List Nat} {l : Fm} {hp : Hp} {Q : Exit → Fm → Hp → Prop} {all : Array Oper} {rest : List Oper} {o : Oper}

theorem ops_hy (hg : o.guard = none) (hd : dlt o.dst n = true) (v : Value) (hy : Hy P n w0 mu l hp o v) (h : Ops P n w0 mu all rest (upd l o.dst v) hp Q) : Ops P n w0 mu all (o :: rest) l hp Q := by
  intro a w hk hG
  refine wpList_plain hg fun K hK => hy a w hk hG K _ fun w' hG' => hK _ _ (h _ _ (hk.put (dlt_lt hd) v) hG')
/-- A guarded operation: where its guard is not met nothing is yielded. -/
def gv (c : Bool) (v : Value) : Value := bif c then v else undef
def wnt (b want : Bool) : Bool := bif want then b else !b
theorem gv_true (v : Value) : gv true v = v := rfl
theorem wnt_iff {b want : Bool} : wnt b want = true ↔ b = want := by cases b <;> cases want <;> decide
/-- What the guard yields. -/
theorem yielded_of {a : Act} {j dj : Nat} {c0 b : Bool} (hk : Knows n l a) (hj : (all[j]?).bind (·.dst) = some dj) (hb : look l dj = some (gv c0 (.bool b))) (hdj : Nat.blt dj n = true) :
    yielded all a.tmps j = bif c0 then some b else none := by
  have h1 := hk.has dj _ hb
  have h2 : dj < a.tmps.size := by rw [hk.size]; simpa using hdj
  simp only [yielded, hj, Option.bind_some]
  rw [Array.getElem?_eq_getElem h2]
  have h3 : a.tmps[dj] = gv c0 (.bool b) := by simpa [Array.getD, h2] using h1
  rw [h3]
  cases c0 <;> rfl
theorem wanted_of {a : Act} {j dj : Nat} {c0 b want : Bool} (hk : Knows n l a) (hg : o.guard = some (j, want)) (hj : (all[j]?).bind (·.dst) = some dj) (hb : look l dj = some (gv c0 (.bool b))) (hdj : Nat.blt dj n = true) :
    Region.wanted o (yielded all a.tmps) = (c0 && wnt b want) := by
  simp only [Region.wanted, hg, yielded_of hk hj hb hdj]
  cases c0 <;> cases b <;> cases want <;> decide
theorem ops_hyg (j : Nat) (want : Bool) (hg : o.guard = some (j, want)) (hd : dlt o.dst n = true) (dj : Nat) (hj : (all[j]?).bind (·.dst) = some dj) (c0 b : Bool) (hb : look l dj = some (gv c0 (.bool b))) (hdj : Nat.blt dj n = true)
    (v : Value) (hy : c0 = true → wnt b want = true → Hy P n w0 mu l hp o v) (h : Ops P n w0 mu all rest (upd l o.dst (gv (c0 && wnt b want) v)) hp Q) : Ops P n w0 mu all (o :: rest) l hp Q := by
  intro a w hk hG
  have hw := wanted_of hk hg hj hb hdj
  refine wpList_step fun K hK => ?_
  cases hc : (c0 && wnt b want) with
  | true =>
    rw [hc] at hw
    rw [if_pos hw]
    rw [Bool.and_eq_true] at hc
    refine hy hc.1 hc.2 a w hk hG K _ fun w' hG' => hK _ _ ?_
    have := h _ _ (hk.put (dlt_lt hd) (gv (c0 && wnt b want) v)) hG'
    rw [hc.1, hc.2] at this
    exact this
  | false =>
    rw [hc] at hw
    rw [if_neg (by rw [hw]; decide)]
    refine hK _ _ ?_
    have := h _ _ (hk.put (dlt_lt hd) (gv (c0 && wnt b want) v)) hG
    rw [hc] at this
    exact this

/-- From a run that turns nothing. -/
theorem hy_run {v : Value} (h : ∀ a w, Knows n l a → Good w0 mu hp w → (execOp a.eval o).run P w = .ok (.value v) w) : Hy P n w0 mu l hp o v := by
  intro a w hk hG K Q hK
  unfold Oper.wp
  rw [h a w hk hG]
  exact hK w hG
theorem hy_move {x : Operand} {v : Value} (hop : o.op = .move x) (hx : ev l x = some v) : Hy P n w0 mu l hp o v :=
  hy_run fun a w hk _ => by simp [execOp, hop, hk.ev hx]
theorem hy_assign {x : Operand} {v : Value} (hop : o.op = .assign x) (hx : ev l x = some v) : Hy P n w0 mu l hp o v :=
  hy_run fun a w hk _ => by simp [execOp, hop, hk.ev hx]
theorem hy_pick {c x y : Operand} {b : Bool} {u v : Value} (hop : o.op = .pick c x y) (hc : ev l c = some (.bool b)) (hx : ev l x = some u) (hy : ev l y = some v) : Hy P n w0 mu l hp o (bif b then u else v) :=
  hy_run fun a w hk _ => by cases b <;> simp [execOp, hop, hk.ev hx, hk.ev hc, hk.ev hy, asBool]
theorem hy_not {t : TypeId} {x : Operand} {b : Bool} (hop : o.op = .unOp .not t x) (hx : ev l x = some (.bool b)) : Hy P n w0 mu l hp o (.bool (!b)) :=
  hy_run fun a w hk _ => by simp only [execOp, hop, hk.ev hx]; simp [go_sem]
theorem hy_extract {x : Operand} {i : Nat} {vs : Array Value} {v : Value} (hop : o.op = .extract x i) (hx : ev l x = some (.tuple vs)) (hi : vs[i]? = some v) : Hy P n w0 mu l hp o v :=
  hy_run fun a w hk _ => by simp [execOp, hop, hk.ev hx, Instr.extract, hi]
theorem hy_nilCheck {x : Operand} {p : Addr} (hop : o.op = .nilCheck x) (hx : ev l x = some (.pointer (some p))) : Hy P n w0 mu l hp o (.pointer (some p)) :=
  hy_run fun a w hk _ => by simp [execOp, hop, hk.ev hx]
theorem hy_lss {t u : TypeId} {x y : Operand} {k : IntKind} {p q : Int} (hop : o.op = .binOp .lss t x y u) (hx : ev l x = some (.int k p)) (hy : ev l y = some (.int k q)) : Hy P n w0 mu l hp o (.bool (decide (p < q))) :=
  hy_run fun a w hk _ => by simp only [execOp, hop, hk.ev hx, hk.ev hy]; simp [go_sem]
theorem hy_leq {t u : TypeId} {x y : Operand} {k : IntKind} {p q : Int} (hop : o.op = .binOp .leq t x y u) (hx : ev l x = some (.int k p)) (hy : ev l y = some (.int k q)) : Hy P n w0 mu l hp o (.bool (decide (p ≤ q))) :=
  hy_run fun a w hk _ => by simp only [execOp, hop, hk.ev hx, hk.ev hy]; simp [go_sem]
theorem hy_gtr {t u : TypeId} {x y : Operand} {k : IntKind} {p q : Int} (hop : o.op = .binOp .gtr t x y u) (hx : ev l x = some (.int k p)) (hy : ev l y = some (.int k q)) : Hy P n w0 mu l hp o (.bool (decide (q < p))) :=
  hy_run fun a w hk _ => by simp only [execOp, hop, hk.ev hx, hk.ev hy]; simp [go_sem]
theorem hy_geq {t u : TypeId} {x y : Operand} {k : IntKind} {p q : Int} (hop : o.op = .binOp .geq t x y u) (hx : ev l x = some (.int k p)) (hy : ev l y = some (.int k q)) : Hy P n w0 mu l hp o (.bool (decide (q ≤ p))) :=
  hy_run fun a w hk _ => by simp only [execOp, hop, hk.ev hx, hk.ev hy]; simp [go_sem]
theorem hy_eql {t u : TypeId} {x y : Operand} {k : IntKind} {p q : Int} (hop : o.op = .binOp .eql t x y u) (hx : ev l x = some (.int k p)) (hy : ev l y = some (.int k q)) : Hy P n w0 mu l hp o (.bool (decide (p = q))) :=
  hy_run fun a w hk _ => by
    simp only [execOp, hop, hk.ev hx, hk.ev hy]
    have e : (p == q) = decide (p = q) := by rw [Bool.eq_iff_iff]; simp
    simp [go_sem, bne, e]
theorem hy_neq {t u : TypeId} {x y : Operand} {k : IntKind} {p q : Int} (hop : o.op = .binOp .neq t x y u) (hx : ev l x = some (.int k p)) (hy : ev l y = some (.int k q)) : Hy P n w0 mu l hp o (.bool (!decide (p = q))) :=
  hy_run fun a w hk _ => by
    simp only [execOp, hop, hk.ev hx, hk.ev hy]
    have e : (p == q) = decide (p = q) := by rw [Bool.eq_iff_iff]; simp
    simp [go_sem, bne, e]
theorem hy_eqlb {t u : TypeId} {x y : Operand} {p q : Bool} (hop : o.op = .binOp .eql t x y u) (ht : P.underlying t = some .bool) (hx : ev l x = some (.bool p)) (hy : ev l y = some (.bool q)) : Hy P n w0 mu l hp o (.bool (p == q)) :=
  hy_run fun a w hk _ => by simp only [execOp, hop, hk.ev hx, hk.ev hy]; simp [eqGuard, run_eql_bool w t p q ht]
theorem hy_neqb {t u : TypeId} {x y : Operand} {p q : Bool} (hop : o.op = .binOp .neq t x y u) (ht : P.underlying t = some .bool) (hx : ev l x = some (.bool p)) (hy : ev l y = some (.bool q)) : Hy P n w0 mu l hp o (.bool (p != q)) :=
  hy_run fun a w hk _ => by
    have := run_neq_bool w t p q ht
    simp only [execOp, hop, hk.ev hx, hk.ev hy]; simp [eqGuard, this, bne]
/-- '||' and '&&'. -/
theorem hy_or {c x : Operand} {b q : Bool} (hop : o.op = .pick c (.const (.bool true)) x) (hc : ev l c = some (.bool b)) (hx : ev l x = some (gv (wnt b false) (.bool q))) : Hy P n w0 mu l hp o (.bool (b || q)) := by
  have := hy_pick (P := P) (n := n) (w0 := w0) (mu := mu) (hp := hp) hop hc rfl hx
  cases b <;> exact this
theorem hy_and {c x : Operand} {b q : Bool} (hop : o.op = .pick c x (.const (.bool false))) (hc : ev l c = some (.bool b)) (hx : ev l x = some (gv (wnt b true) (.bool q))) : Hy P n w0 mu l hp o (.bool (b && q)) := by
  have := hy_pick (P := P) (n := n) (w0 := w0) (mu := mu) (hp := hp) hop hc hx rfl
  cases b <;> exact this
/-- Arithmetic, wrapped. -/
theorem hy_add {t u : TypeId} {x y : Operand} {k : IntKind} {p q : Int} (hop : o.op = .binOp .add t x y u) (hx : ev l x = some (.int k p)) (hy : ev l y = some (.int k q)) : Hy P n w0 mu l hp o (.int k (k.wrap (p + q))) :=
  hy_run fun a w hk _ => by simp only [execOp, hop, hk.ev hx, hk.ev hy]; cases k <;> rfl
theorem hy_sub {t u : TypeId} {x y : Operand} {k : IntKind} {p q : Int} (hop : o.op = .binOp .sub t x y u) (hx : ev l x = some (.int k p)) (hy : ev l y = some (.int k q)) : Hy P n w0 mu l hp o (.int k (k.wrap (p - q))) :=
  hy_run fun a w hk _ => by simp only [execOp, hop, hk.ev hx, hk.ev hy]; cases k <;> rfl
theorem hy_mul {t u : TypeId} {x y : Operand} {k : IntKind} {p q : Int} (hop : o.op = .binOp .mul t x y u) (hx : ev l x = some (.int k p)) (hy : ev l y = some (.int k q)) : Hy P n w0 mu l hp o (.int k (k.wrap (p * q))) :=
  hy_run fun a w hk _ => by simp only [execOp, hop, hk.ev hx, hk.ev hy]; cases k <;> rfl
/-- .. of int, where it fits. -/
theorem wrap_in {x : Int} (h0 : -9223372036854775808 ≤ x) (h1 : x ≤ 9223372036854775807) : IntKind.i64.wrap x = x := IntWalk.i64_in _ ⟨h0, h1⟩
theorem hy_addI {t u : TypeId} {x y : Operand} {p q : Int} (hop : o.op = .binOp .add t x y u) (hx : ev l x = some (.int .i64 p)) (hy : ev l y = some (.int .i64 q)) (h0 : -9223372036854775808 ≤ p + q) (h1 : p + q ≤ 9223372036854775807) : Hy P n w0 mu l hp o (.int .i64 (p + q)) := by
  have := hy_add (P := P) (n := n) (w0 := w0) (mu := mu) (hp := hp) hop hx hy; rwa [wrap_in h0 h1] at this
theorem hy_subI {t u : TypeId} {x y : Operand} {p q : Int} (hop : o.op = .binOp .sub t x y u) (hx : ev l x = some (.int .i64 p)) (hy : ev l y = some (.int .i64 q)) (h0 : -9223372036854775808 ≤ p - q) (h1 : p - q ≤ 9223372036854775807) : Hy P n w0 mu l hp o (.int .i64 (p - q)) := by
  have := hy_sub (P := P) (n := n) (w0 := w0) (mu := mu) (hp := hp) hop hx hy; rwa [wrap_in h0 h1] at this
theorem hy_mulI {t u : TypeId} {x y : Operand} {p q : Int} (hop : o.op = .binOp .mul t x y u) (hx : ev l x = some (.int .i64 p)) (hy : ev l y = some (.int .i64 q)) (h0 : -9223372036854775808 ≤ p * q) (h1 : p * q ≤ 9223372036854775807) : Hy P n w0 mu l hp o (.int .i64 (p * q)) := by
  have := hy_mul (P := P) (n := n) (w0 := w0) (mu := mu) (hp := hp) hop hx hy; rwa [wrap_in h0 h1] at this
/-- A conversion between kinds of integers. -/
theorem hy_conv {s d : TypeId} {x : Operand} {k k' : IntKind} {p : Int} (hop : o.op = .convert s d x) (hs : P.underlying s = some (.int k)) (hd : P.underlying d = some (.int k')) (hx : ev l x = some (.int k p)) : Hy P n w0 mu l hp o (.int k' (k'.wrap p)) :=
  hy_run fun a w hk _ => by
    simp only [execOp, hop, hk.ev hx]
    simp [convert, run_underlying hs w, run_underlying hd w, Conv.intToInt, go_sem]
theorem hy_len {x : Operand} {t e : TypeId} {p : Option Addr} {c m : Nat} (hop : o.op = .call { callee := .builtin .len, args := #[x], argTypes := #[t] }) (ht : P.underlying t = some (.slice e)) (hx : ev l x = some (.slice p m c)) : Hy P n w0 mu l hp o (.int .i64 m) :=
  hy_run fun a w hk _ => by
    simp only [execOp, hop, resolve, List.map_toArray, List.map_cons, List.map_nil, hk.ev hx]; simp [invoke, builtin, Builtin.len_, run_underlying ht w, go_sem]
end
end Go.Proofs.YtdfkcjjbflcafaaGreat
