/- The engine: '==' of structs and arrays of numbers and bools. No program in sight. -/
import Derived.Test.YtdfkcjjbflcafaaGreatEngX
import Derived.Laws.StructEq
namespace Go.Proofs.YtdfkcjjbflcafaaGreat
open Go.RowKit
set_option linter.unusedVariables false
set_option linter.unusedSimpArgs false
inductive Leaf where
  | i (k : IntKind)
  | b
deriving DecidableEq
def Leaf.same : Leaf → Leaf → Bool
  | .i k, .i k' => decide (k = k')
  | .b, .b => true
  | _, _ => false
def okLeaf : Leaf → Value → Bool
  | .i k, .int k' _ => decide (k = k')
  | .b, .bool _ => true
  | _, _ => false
def okLeaves : List Leaf → List Value → Bool
  | [], [] => true
  | l :: ls, v :: vs => okLeaf l v && okLeaves ls vs
  | _, _ => false
def eqLeaf : Value → Value → Bool
  | .int _ x, .int _ y => decide (x = y)
  | .bool x, .bool y => x == y
  | _, _ => false
def eqLeaves : List Value → List Value → Bool
  | v :: vs, u :: us => eqLeaf v u && eqLeaves vs us
  | _, _ => true
/-- The leaves of fields that lie one behind the other from an offset on. -/
def lfFields (F : TypeId → Option (List Leaf)) : Nat → List Field → Option (List Leaf)
  | _, [] => some []
  | off, f :: r => if f.name ≠ "_" ∧ f.offset = off then (F f.type).bind fun ks => (lfFields F (off + ks.length) r).map fun rs => ks ++ rs else none
def lfTimes (ks : List Leaf) : Nat → List Leaf
  | 0 => []
  | n + 1 => ks ++ lfTimes ks n
def lfOf (P : Program) : Nat → TypeId → Option (List Leaf)
  | 0, _ => none
  | d + 1, t => match P.underlying t with
    | some (.int k) => some [.i k]
    | some .bool => some [.b]
    | some (.struct fs) => if P.stoodInHeld t = false then (lfFields (fun u => (lfOf P d u).bind fun ks => if szOf P u = some ks.length ∧ 0 < ks.length then some ks else none) 0 fs.toList) else none
    | some (.array n e) => (lfOf P d e).bind fun ks => if szOf P e = some ks.length ∧ 0 < ks.length then some (lfTimes ks n) else none
    | _ => none
theorem okLeaves_len : ∀ {ks : List Leaf} {vs : List Value}, okLeaves ks vs = true → vs.length = ks.length := by
  intro ks
  induction ks with
  | nil => intro vs h; cases vs <;> simp_all [okLeaves]
  | cons k r ih => intro vs h; cases vs with
    | nil => simp [okLeaves] at h
    | cons v vs => simp only [okLeaves, Bool.and_eq_true] at h; simp [ih h.2]
theorem okLeaves_app : ∀ {ks rs : List Leaf} {vs : List Value}, okLeaves (ks ++ rs) vs = true → okLeaves ks (vs.take ks.length) = true ∧ okLeaves rs (vs.drop ks.length) = true := by
  intro ks
  induction ks with
  | nil => intro rs vs h; simpa [okLeaves] using h
  | cons k r ih => intro rs vs h; cases vs with
    | nil => simp [okLeaves] at h
    | cons v vs =>
      simp only [List.cons_append, okLeaves, Bool.and_eq_true] at h
      obtain ⟨h1, h2⟩ := ih h.2
      simp [okLeaves, h.1, h1, h2]
theorem eqLeaves_split : ∀ (n : Nat) (vs us : List Value), vs.length = us.length → eqLeaves vs us = (eqLeaves (vs.take n) (us.take n) && eqLeaves (vs.drop n) (us.drop n)) := by
  intro n
  induction n with
  | zero => intro vs us h; simp [eqLeaves]
  | succ n ih => intro vs us h; cases vs with
    | nil => cases us with
      | nil => rfl
      | cons u us => simp at h
    | cons v vs => cases us with
      | nil => simp at h
      | cons u us => simp only [List.length_cons, Nat.add_right_cancel_iff] at h; simp only [List.take_succ_cons, List.drop_succ_cons, eqLeaves]; rw [ih vs us h, Bool.and_assoc]
/-- A value of a type, out of its cells. -/
def vOf (P : Program) (t : TypeId) (cs : List Value) : Value := bif isAg P t then .agg cs.toArray else cs.headD undef
section
variable {P : Program}
theorem run_part {t : TypeId} {cs : List Value} {off s : Nat} (hs : szOf P t = some s) (hle : off + s ≤ cs.length) (hsc : isAg P t = true ∨ (isSc P t = true ∧ s = 1)) (w : World) :
    (part t cs.toArray off).run P w = .ok (vOf P t ((cs.drop off).take s)) w := by
  rcases hsc with ha | ⟨hsc, rfl⟩
  · have hagg : (isAgg t).run P w = .ok true w := by
      unfold isAg at ha
      cases hu : P.underlying t with
      | none => rw [hu] at ha; cases ha
      | some d =>
        rw [hu] at ha
        unfold isAgg
        rw [Sem.run_bind, run_underlying hu w]
        cases d <;> first | rfl | (simp at ha; done) | (simp at ha)
    simp only [part, Sem.run_bind, hagg, Result.andThen_ok, if_true, run_sizeOf hs w, Sem.run_pure, vOf, ha, cond_true]
    congr 2
    simp [List.extract_toArray, List.extract_eq_take_drop]
  · have hn : isAg P t = false := by
      unfold isSc at hsc
      unfold isAg
      cases hu : P.underlying t with
      | none => rfl
      | some d =>
        rw [hu] at hsc
        cases d <;> first | rfl | cases hsc
    simp only [part, Sem.run_bind, run_isAgg_sc hsc w, Result.andThen_ok, vOf, hn, cond_false]
    have h1 : off < cs.length := by omega
    simp only [List.getElem?_toArray, List.getElem?_eq_getElem h1, Sem.run_pure]
    rw [List.drop_eq_getElem_cons h1]
    rfl
theorem eqFields_leaves {F : TypeId → Option (List Leaf)} {d : Nat} (hF : ∀ u ks, F u = some ks → szOf P u = some ks.length ∧ 0 < ks.length ∧ (isAg P u = true ∨ (isSc P u = true ∧ ks.length = 1)) ∧
      ∀ xs ys w, okLeaves ks xs = true → okLeaves ks ys = true → (Op.equalIn d u (vOf P u xs) (vOf P u ys)).run P w = .ok (eqLeaves xs ys) w) (xs ys : List Value) :
    ∀ (fs : List Field) (off : Nat) (ks : List Leaf), lfFields F off fs = some ks → okLeaves ks (xs.drop off) = true → okLeaves ks (ys.drop off) = true → ∀ w, (Op.eqFields d xs.toArray ys.toArray fs).run P w = .ok (eqLeaves (xs.drop off) (ys.drop off)) w := by
  intro fs
  induction fs with
  | nil =>
    intro off ks h hx hy w
    simp only [lfFields, Option.some.injEq] at h
    subst h
    have e1 : xs.drop off = [] := by have := okLeaves_len hx; simp at this; exact List.drop_eq_nil_of_le (by omega)
    have e2 : ys.drop off = [] := by have := okLeaves_len hy; simp at this; exact List.drop_eq_nil_of_le (by omega)
    simp [Op.eqFields, e1, e2, eqLeaves]
  | cons f r ih =>
    intro off ks h hx hy w
    simp only [lfFields] at h
    split at h
    · rename_i hc
      obtain ⟨hname, hoff⟩ := hc
      cases hf : F f.type with
      | none => simp [hf] at h
      | some k1 =>
        rw [hf] at h
        simp only [Option.bind_some] at h
        cases hr : lfFields F (off + k1.length) r with
        | none => simp [hr] at h
        | some k2 =>
          rw [hr] at h
          simp only [Option.map_some, Option.some.injEq] at h
          subst h
          obtain ⟨hs, hpos, hk, hE⟩ := hF _ _ hf
          have lx := okLeaves_len hx
          have ly := okLeaves_len hy
          simp only [List.length_drop, List.length_append] at lx ly
          obtain ⟨x1, x2⟩ := okLeaves_app hx
          obtain ⟨y1, y2⟩ := okLeaves_app hy
          rw [List.drop_drop] at x2 y2
          simp only [Op.eqFields]
          rw [if_pos hname, hoff]
          have p1 := run_part (P := P) (t := f.type) (cs := xs) (off := off) hs (by omega) hk w
          have p2 := run_part (P := P) (t := f.type) (cs := ys) (off := off) hs (by omega) hk w
          simp only [Sem.run_bind, p1, Result.andThen_ok, p2]
          have := hE _ _ w x1 y1
          rw [this]
          rw [eqLeaves_split k1.length (xs.drop off) (ys.drop off) (by simp; omega), List.drop_drop, List.drop_drop]
          cases hq : eqLeaves ((xs.drop off).take k1.length) ((ys.drop off).take k1.length) with
          | false => simp
          | true =>
            simp only [Result.andThen_ok, Bool.not_true, Bool.false_eq_true, if_false, Bool.true_and]
            exact ih _ k2 hr x2 y2 w
    · cases h
theorem run_eqTimes {e : TypeId} {d m : Nat} {ks : List Leaf} (hs : szOf P e = some ks.length) (hpos : 0 < ks.length) (hk : isAg P e = true ∨ (isSc P e = true ∧ ks.length = 1))
    (hE : ∀ xs ys w, okLeaves ks xs = true → okLeaves ks ys = true → (Op.equalIn d e (vOf P e xs) (vOf P e ys)).run P w = .ok (eqLeaves xs ys) w) (xs ys : List Value) (n : Nat) (hx : okLeaves (lfTimes ks n) (xs.drop (m * ks.length)) = true) (hy : okLeaves (lfTimes ks n) (ys.drop (m * ks.length)) = true) (w : World) :
    ((do for i in List.range' m n do
          if !(← Op.equalIn d e (← part e xs.toArray (i * ks.length)) (← part e ys.toArray (i * ks.length))) then return false
         pure true : Sem Bool)).run P w = .ok (eqLeaves (xs.drop (m * ks.length)) (ys.drop (m * ks.length))) w := by
  induction n generalizing m with
  | zero =>
    have e1 : xs.drop (m * ks.length) = [] := by have := okLeaves_len hx; simp [lfTimes] at this; exact List.drop_eq_nil_of_le (by omega)
    have e2 : ys.drop (m * ks.length) = [] := by have := okLeaves_len hy; simp [lfTimes] at this; exact List.drop_eq_nil_of_le (by omega)
    simp [e1, e2, eqLeaves]
  | succ n ih =>
    have lx := okLeaves_len hx
    have ly := okLeaves_len hy
    simp only [List.length_drop, lfTimes, List.length_append] at lx ly
    obtain ⟨x1, x2⟩ := okLeaves_app hx
    obtain ⟨y1, y2⟩ := okLeaves_app hy
    rw [List.drop_drop, ← Nat.succ_mul] at x2 y2
    have p1 := run_part (P := P) (t := e) (cs := xs) (off := m * ks.length) hs (by omega) hk w
    have p2 := run_part (P := P) (t := e) (cs := ys) (off := m * ks.length) hs (by omega) hk w
    rw [List.range'_succ]
    simp only [List.forIn_cons, Sem.run_bind, p1, Result.andThen_ok, p2, hE _ _ w x1 y1]
    rw [eqLeaves_split ks.length (xs.drop (m * ks.length)) (ys.drop (m * ks.length)) (by simp; omega), List.drop_drop, List.drop_drop, ← Nat.succ_mul]
    cases hq : eqLeaves ((xs.drop (m * ks.length)).take ks.length) ((ys.drop (m * ks.length)).take ks.length) with
    | false => simp
    | true =>
      have := ih x2 y2
      simp only [Sem.run_bind] at this
      simpa using this
theorem lfOf_sc {d : Nat} {t : TypeId} {ks : List Leaf} (h : lfOf P d t = some ks) : isAg P t = true ∨ (isSc P t = true ∧ ks.length = 1) := by
  cases d with
  | zero => cases h
  | succ d =>
    simp only [lfOf] at h
    unfold isAg isSc
    split at h
    · rename_i hu; rw [hu]; simp only [Option.some.injEq] at h; subst h; exact .inr ⟨rfl, rfl⟩
    · rename_i hu; rw [hu]; simp only [Option.some.injEq] at h; subst h; exact .inr ⟨rfl, rfl⟩
    · rename_i hu; rw [hu]; exact .inl rfl
    · rename_i hu; rw [hu]; exact .inl rfl
    · cases h
theorem run_equal_leaves : ∀ (d m : Nat) (t : TypeId) (ks : List Leaf), lfOf P d t = some ks → ∀ xs ys w, okLeaves ks xs = true → okLeaves ks ys = true → (Op.equalIn (d + m) t (vOf P t xs) (vOf P t ys)).run P w = .ok (eqLeaves xs ys) w := by
  intro d
  induction d with
  | zero => intro m t ks h; cases h
  | succ d ih =>
    intro m t ks h xs ys w hx hy
    have hsc := lfOf_sc h
    simp only [lfOf] at h
    rw [show d + 1 + m = (d + m) + 1 by omega]
    split at h
    · rename_i k hu
      simp only [Option.some.injEq] at h
      subst h
      have hag : isAg P t = false := by unfold isAg; rw [hu]
      obtain ⟨k1, a, rfl⟩ : ∃ k1 a, xs = [.int k1 a] := by
        cases xs with
        | nil => simp [okLeaves] at hx
        | cons v r => cases r with
          | nil => cases v <;> first | exact ⟨_, _, rfl⟩ | simp [okLeaves, okLeaf] at hx
          | cons u r => simp [okLeaves] at hx
      obtain ⟨k2, b, rfl⟩ : ∃ k2 b, ys = [.int k2 b] := by
        cases ys with
        | nil => simp [okLeaves] at hy
        | cons v r => cases r with
          | nil => cases v <;> first | exact ⟨_, _, rfl⟩ | simp [okLeaves, okLeaf] at hy
          | cons u r => simp [okLeaves] at hy
      · · simp only [okLeaves, okLeaf, Bool.and_true, decide_eq_true_eq] at hx hy
          subst hx; subst hy
          have e : (a == b) = decide (a = b) := by rw [Bool.eq_iff_iff]; simp
          simp only [vOf, hag, cond_false, List.headD_cons, run_equalIn_int w (d + m) t k k a b hu, eqLeaves, eqLeaf, Bool.and_true, e]
    · rename_i hu
      simp only [Option.some.injEq] at h
      subst h
      have hag : isAg P t = false := by unfold isAg; rw [hu]
      obtain ⟨a, rfl⟩ : ∃ a, xs = [.bool a] := by
        cases xs with
        | nil => simp [okLeaves] at hx
        | cons v r => cases r with
          | nil => cases v <;> first | exact ⟨_, rfl⟩ | simp [okLeaves, okLeaf] at hx
          | cons u r => simp [okLeaves] at hx
      obtain ⟨b, rfl⟩ : ∃ b, ys = [.bool b] := by
        cases ys with
        | nil => simp [okLeaves] at hy
        | cons v r => cases r with
          | nil => cases v <;> first | exact ⟨_, rfl⟩ | simp [okLeaves, okLeaf] at hy
          | cons u r => simp [okLeaves] at hy
      · simp only [vOf, hag, cond_false, List.headD_cons, run_equalIn_bool' w (d + m) t a b hu, eqLeaves, eqLeaf, Bool.and_true]
    · rename_i fs hu
      have hag : isAg P t = true := by unfold isAg; rw [hu]
      split at h
      · rename_i hst
        have hfs : P.fieldsOf t = fs := by unfold Program.fieldsOf; rw [hu]
        simp only [vOf, hag, cond_true]
        rw [run_equalIn_struct w (d + m) t xs.toArray ys.toArray (by rw [hfs]; exact hu) hst, hfs]
        have := eqFields_leaves (P := P) (F := fun u => (lfOf P d u).bind fun ks => if szOf P u = some ks.length ∧ 0 < ks.length then some ks else none) (d := d + m) (fun u ks' hF => by
          cases hl : lfOf P d u with
          | none => rw [hl] at hF; cases hF
          | some k1 =>
            rw [hl] at hF
            simp only [Option.bind_some] at hF
            split at hF
            · rename_i hz
              simp only [Option.some.injEq] at hF
              subst hF
              exact ⟨hz.1, hz.2, lfOf_sc hl, fun xs ys w => ih m u k1 hl xs ys w⟩
            · cases hF) xs ys fs.toList 0 ks h (by simpa using hx) (by simpa using hy) w
        simpa using this
      · cases h
    · rename_i n e hu
      have hag : isAg P t = true := by unfold isAg; rw [hu]
      cases hl : lfOf P d e with
      | none => rw [hl] at h; cases h
      | some k1 =>
        rw [hl] at h
        simp only [Option.bind_some] at h
        split at h
        · rename_i hz
          simp only [Option.some.injEq] at h
          subst h
          simp only [vOf, hag, cond_true, Op.equalIn, Sem.run_bind, run_underlying hu w, Result.andThen_ok, run_sizeOf hz.1 w]
          have := run_eqTimes (m := 0) hz.1 hz.2 (lfOf_sc hl) (fun xs ys w => ih m e k1 hl xs ys w) xs ys n (by simpa using hx) (by simpa using hy) w
          simp only [Nat.zero_mul, List.drop_zero] at this
          rw [← this]
          congr 1
          simp only [Std.Legacy.Range.forIn_eq_forIn_range', Std.Legacy.Range.size]
          simp
        · cases h
    · cases h
/-- The leaves of each type that '==' is asked of. -/
def LfOk (P : Program) : List (Nat × List Leaf) → Prop
  | [] => True
  | p :: r => (lfOf P 8 p.1 = some p.2 ∧ isAg P p.1 = true ∧ P.eqGuardType P.depth p.1 = false) ∧ LfOk P r
theorem lf_get {L : List (Nat × List Leaf)} (ok : LfOk P L) {t : Nat} {ks : List Leaf} (h : lk L t = some ks) : lfOf P 8 t = some ks ∧ isAg P t = true ∧ P.eqGuardType P.depth t = false := by
  induction L with
  | nil => cases h
  | cons p r ih =>
    obtain ⟨k, v⟩ := p
    simp only [lk] at h
    cases hb : Nat.beq k t with
    | true =>
      rw [hb] at h
      simp only [cond_true, Option.some.injEq] at h
      subst h
      obtain rfl := Nat.eq_of_beq_eq_true hb
      exact ok.1
    | false => rw [hb] at h; exact ih ok.2 h
theorem run_eqA {L : List (Nat × List Leaf)} (ok : LfOk P L) {t : Nat} {ks : List Leaf} (h : lk L t = some ks) (xs ys : List Value) (w : World) (h1 : okLeaves ks xs = true) (h2 : okLeaves ks ys = true) : (Op.equalIn 10000 t (.agg xs.toArray) (.agg ys.toArray)).run P w = .ok (eqLeaves xs ys) w := by
  obtain ⟨g1, g2, _⟩ := lf_get ok h
  have := run_equal_leaves (P := P) 8 9992 t ks g1 xs ys w h1 h2
  simpa only [vOf, g2, cond_true] using this
variable {n : Nat} {w0 : World} {mu : List Nat} {hp : Hp} {l : Fm} {L : List (Nat × List Leaf)}
theorem hy_eqlA (ok : LfOk P L) {o : Oper} {t u : TypeId} {x y : Operand} {xs ys : List Value} {ks : List Leaf} (hop : o.op = .binOp .eql t x y u) (hx : ev l x = some (.agg xs.toArray)) (hy : ev l y = some (.agg ys.toArray)) (hk : lk L t = some ks) (h1 : okLeaves ks xs = true) (h2 : okLeaves ks ys = true) : Hy P n w0 mu l hp o (.bool (eqLeaves xs ys)) :=
  hy_run fun a w hk' _ => by
    have := run_eqA ok hk xs ys w h1 h2
    have hg := (lf_get ok hk).2.2
    simp only [execOp, hop, hk'.ev hx, hk'.ev hy]; simp [run_eqGuard_agg, hg, run_eql_struct, this]
theorem hy_neqA (ok : LfOk P L) {o : Oper} {t u : TypeId} {x y : Operand} {xs ys : List Value} {ks : List Leaf} (hop : o.op = .binOp .neq t x y u) (hx : ev l x = some (.agg xs.toArray)) (hy : ev l y = some (.agg ys.toArray)) (hk : lk L t = some ks) (h1 : okLeaves ks xs = true) (h2 : okLeaves ks ys = true) : Hy P n w0 mu l hp o (.bool (!eqLeaves xs ys)) :=
  hy_run fun a w hk' _ => by
    have := run_eqA ok hk xs ys w h1 h2
    have hg := (lf_get ok hk).2.2
    simp only [execOp, hop, hk'.ev hx, hk'.ev hy]; simp [run_eqGuard_agg, hg, run_neq_struct, this]
variable {dd : Option Tmp} {ty : TypeId} {pos : String} {af : Array Edge} {gg : Option (Nat × Bool)}
theorem x_eqlA (ok : LfOk P L) {t u : TypeId} {x y : Operand} {xs ys : List Value} {ks : List Leaf} (hx : ev l x = some (.agg xs.toArray)) (hy : ev l y = some (.agg ys.toArray)) (hk : lk L t = some ks) (h1 : okLeaves ks xs = true) (h2 : okLeaves ks ys = true) : Hy P n w0 mu l hp ⟨dd, .binOp .eql t x y u, ty, pos, af, gg⟩ (.bool (eqLeaves xs ys)) := hy_eqlA ok rfl hx hy hk h1 h2
theorem x_neqA (ok : LfOk P L) {t u : TypeId} {x y : Operand} {xs ys : List Value} {ks : List Leaf} (hx : ev l x = some (.agg xs.toArray)) (hy : ev l y = some (.agg ys.toArray)) (hk : lk L t = some ks) (h1 : okLeaves ks xs = true) (h2 : okLeaves ks ys = true) : Hy P n w0 mu l hp ⟨dd, .binOp .neq t x y u, ty, pos, af, gg⟩ (.bool (!eqLeaves xs ys)) := hy_neqA ok rfl hx hy hk h1 h2
/-- A call of which only the value is kept. -/
theorem z_callV {Q : Exit → Fm → Hp → Prop} {all : Array Oper} {rest : List Oper} {f : FuncId} {d : Nat} {xs : List Operand} {vs : List Value} {tys : Array TypeId} {R : Value → Prop} (hcal : Cal P f) (hd : Nat.blt d n = true) (hv : evs l xs = some vs)
    (hc : ∀ w, Good w0 mu hp w → Fn P f vs.toArray w [] (fun v _ => R v)) (h : ∀ v, R v → Ops P n w0 mu all rest ((d, v) :: l) hp Q) : Ops P n w0 mu all (⟨some d, .call { callee := .value (.func f), args := xs.toArray, argTypes := tys }, ty, pos, af, none⟩ :: rest) l hp Q :=
  z_call hcal hd hv hc fun v hn hR a w hk hg => h v hR a w hk (hg.sub (List.sublist_append_right _ _))
end
end Go.Proofs.YtdfkcjjbflcafaaGreat
