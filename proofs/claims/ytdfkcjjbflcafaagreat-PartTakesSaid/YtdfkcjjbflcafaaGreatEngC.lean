/- The engine: memory: reading, addresses, new blocks, stores, calls. No program in sight. -/
import Derived.Test.YtdfkcjjbflcafaaGreatEngB
import Derived.Deep.MidRow
import Derived.Conc.MuLone
import Derived.Conc.EntryLaws
namespace Go.Proofs.YtdfkcjjbflcafaaGreat
open Go.RowKit
set_option linter.unusedVariables false
set_option linter.unusedSimpArgs false

/-- Closed facts of the program's types, each reckoned by the kernel. -/
def isSc (P : Program) (t : TypeId) : Bool :=
  match P.underlying t with
  | some (.struct _) | some (.array _ _) | none => false
  | _ => true
def isAg (P : Program) (t : TypeId) : Bool :=
  match P.underlying t with
  | some (.struct _) | some (.array _ _) => true
  | _ => false
def szOf (P : Program) (t : TypeId) : Option Nat := (P.info? t).map (·.size)
def fOff (P : Program) (t : TypeId) (k : Nat) : Option Nat :=
  match P.underlying t with
  | some (.struct fs) => (fs[k]?).bind fun f => match szOf P f.type with | some (_ + 1) => some f.offset | _ => none
  | _ => none
def zeroOf (P : Program) (t : TypeId) : Option Value := (P.info? t).bind (·.zero)

/-- A table of the program's types: looked up by the walk, right by the kernel. -/
structure Tab where
  sz : List (Nat × Nat)
  sc : List Nat
  ag : List Nat
  sl : List (Nat × Nat × Nat)
  ar : List (Nat × Nat × Nat × Nat)
  fo : List (Nat × List Nat)
  pl : List (Nat × List (Nat × Nat))
  ik : List (Nat × IntKind)
  bo : List Nat
  eb : List (Nat × Nat)
  zs : List (Nat × Value)
def slOf (P : Program) (t : TypeId) : Option (Nat × Nat) :=
  match P.underlying t with
  | some (.slice e) => (szOf P e).map fun s => (e, s)
  | _ => none
def arOf (P : Program) (t : TypeId) : Option (Nat × Nat × Nat) :=
  match P.underlying t with
  | some (.array n e) => (szOf P e).map fun s => (n, e, s)
  | _ => none
def ikOf (P : Program) (t : TypeId) : Option IntKind :=
  match P.underlying t with
  | some (.int k) => some k
  | _ => none
def boOf (P : Program) (t : TypeId) : Bool :=
  match P.underlying t with
  | some .bool => true
  | _ => false
def placesOf (P : Program) (t : TypeId) : Option (List (Nat × Nat)) :=
  match P.underlying t with
  | some (.struct fs) => fs.toList.mapM fun f => (szOf P f.type).map fun s => (f.offset, s)
  | _ => none
def AllZ (P : Program) : List (Nat × Value) → Prop
  | [] => True
  | p :: r => zeroOf P p.1 = some p.2 ∧ AllZ P r
structure TabOk (P : Program) (T : Tab) : Prop where
  sz : (T.sz.all fun p => szOf P p.1 == some p.2) = true
  sc : (T.sc.all fun t => isSc P t) = true
  ag : (T.ag.all fun t => isAg P t) = true
  sl : (T.sl.all fun p => slOf P p.1 == some p.2) = true
  ar : (T.ar.all fun p => arOf P p.1 == some p.2) = true
  fo : (T.fo.all fun p => p.2.zipIdx.all fun q => fOff P p.1 q.2 == some q.1) = true
  pl : (T.pl.all fun p => placesOf P p.1 == some p.2) = true
  ik : (T.ik.all fun p => ikOf P p.1 == some p.2) = true
  bo : (T.bo.all fun t => boOf P t) = true
  eb : (T.eb.all fun p => (P.info? p.1).map (·.bytes) == some p.2) = true
  zs : AllZ P T.zs
def lk {α : Type} : List (Nat × α) → Nat → Option α
  | [], _ => none
  | (k, v) :: r, t => bif Nat.beq k t then some v else lk r t
def mem : List Nat → Nat → Bool
  | [], _ => false
  | k :: r, t => bif Nat.beq k t then true else mem r t
theorem lk_mem {α : Type} {T : List (Nat × α)} {t : Nat} {v : α} (h : lk T t = some v) : (t, v) ∈ T := by
  induction T with
  | nil => simp [lk] at h
  | cons p r ih =>
    obtain ⟨k, u⟩ := p
    simp only [lk] at h
    cases hb : Nat.beq k t with
    | true =>
      rw [hb] at h
      simp only [cond_true, Option.some.injEq] at h
      rw [← beq_iff.1 hb, ← h]; exact List.mem_cons_self ..
    | false => rw [hb] at h; exact List.mem_cons_of_mem _ (ih h)
theorem mem_mem {T : List Nat} {t : Nat} (h : mem T t = true) : t ∈ T := by
  induction T with
  | nil => simp [mem] at h
  | cons k r ih =>
    simp only [mem] at h
    cases hb : Nat.beq k t with
    | true => rw [← beq_iff.1 hb]; exact List.mem_cons_self ..
    | false => rw [hb] at h; exact List.mem_cons_of_mem _ (ih h)
section
variable {P : Program} {T : Tab}
theorem TabOk.gsz (ok : TabOk P T) {t s : Nat} (h : lk T.sz t = some s) : szOf P t = some s := by
  have := List.all_eq_true.1 ok.sz _ (lk_mem h); simpa using this
theorem TabOk.gsc (ok : TabOk P T) {t : Nat} (h : mem T.sc t = true) : isSc P t = true := List.all_eq_true.1 ok.sc _ (mem_mem h)
theorem TabOk.gag (ok : TabOk P T) {t : Nat} (h : mem T.ag t = true) : isAg P t = true := List.all_eq_true.1 ok.ag _ (mem_mem h)
theorem TabOk.gsl (ok : TabOk P T) {t e s : Nat} (h : lk T.sl t = some (e, s)) : P.underlying t = some (.slice e) ∧ szOf P e = some s := by
  have := List.all_eq_true.1 ok.sl _ (lk_mem h)
  simp only [slOf, beq_iff_eq] at this
  split at this
  · rename_i e' hu
    cases hs : szOf P e' with
    | none => simp [hs] at this
    | some s' => simp [hs] at this; obtain ⟨rfl, rfl⟩ := this; exact ⟨hu, hs⟩
  · cases this
theorem TabOk.gar (ok : TabOk P T) {t m e s : Nat} (h : lk T.ar t = some (m, e, s)) : P.underlying t = some (.array m e) ∧ szOf P e = some s := by
  have := List.all_eq_true.1 ok.ar _ (lk_mem h)
  simp only [arOf, beq_iff_eq] at this
  split at this
  · rename_i m' e' hu
    cases hs : szOf P e' with
    | none => simp [hs] at this
    | some s' => simp [hs] at this; obtain ⟨rfl, rfl, rfl⟩ := this; exact ⟨hu, hs⟩
  · cases this
theorem TabOk.gik (ok : TabOk P T) {t : Nat} {k : IntKind} (h : lk T.ik t = some k) : P.underlying t = some (.int k) := by
  have := List.all_eq_true.1 ok.ik _ (lk_mem h)
  simp only [ikOf, beq_iff_eq] at this
  split at this
  · rename_i k' hu; simp only [Option.some.injEq] at this; rw [← this]; exact hu
  · cases this
theorem TabOk.gbo (ok : TabOk P T) {t : Nat} (h : mem T.bo t = true) : P.underlying t = some .bool := by
  have := List.all_eq_true.1 ok.bo _ (mem_mem h)
  simp only [boOf] at this
  split at this
  · assumption
  · cases this
theorem TabOk.gfo (ok : TabOk P T) {t k d : Nat} {os : List Nat} (h : lk T.fo t = some os) (hk : os[k]? = some d) : fOff P t k = some d := by
  have := List.all_eq_true.1 ok.fo _ (lk_mem h)
  have h2 := List.all_eq_true.1 this (d, k) (by rw [List.mem_zipIdx_iff_getElem?]; exact hk)
  simpa using h2
theorem TabOk.gzs (ok : TabOk P T) {t : Nat} {z : Value} (h : lk T.zs t = some z) : zeroOf P t = some z := by
  have := lk_mem h
  have hz := ok.zs
  generalize T.zs = l at *
  induction l with
  | nil => cases this
  | cons p r ih =>
    rcases List.mem_cons.1 this with rfl | hm
    · exact hz.1
    · by_cases hb : Nat.beq p.1 t = true
      · simp only [lk, hb, cond_true, Option.some.injEq] at h
        rw [← beq_iff.1 hb, ← h]; exact hz.1
      · have hb' : Nat.beq p.1 t = false := by cases hq : Nat.beq p.1 t; · rfl
                                               · exact absurd hq hb
        simp only [lk, hb', cond_false] at h
        exact ih h hm hz.2
end

section
variable {P : Program} {n : Nat} {w0 : World} {mu : List Nat} {l : Fm} {hp : Hp} {Q : Exit → Fm → Hp → Prop} {all : Array Oper} {rest : List Oper} {o : Oper}

theorem run_isAgg_sc {t : TypeId} (h : isSc P t = true) (w : World) : (isAgg t).run P w = .ok false w := by
  unfold isSc at h
  cases hu : P.underlying t with
  | none => rw [hu] at h; cases h
  | some d =>
    rw [hu] at h
    unfold isAgg
    rw [Sem.run_bind, run_underlying hu w]
    cases d <;> simp_all
theorem run_load_sc {t : TypeId} (h : isSc P t = true) {w : World} {p : Addr} {v : Value} (hc : w.cell? p = some v) : (Instr.loadAt t (.pointer (some p))).run P w = .ok v w := by
  simp only [Instr.loadAt, Instr.sureAddr, Sem.run_bind, Sem.run_pure, Result.andThen_ok, loadVar, run_isAgg_sc h w]
  simp [load, Sem.run, hc]
theorem hy_load {t : TypeId} {x : Operand} {b off : Nat} {v : Value} (hop : o.op = .load t x) (hs : isSc P t = true) (hx : ev l x = some (.pointer (some ⟨b, off, none⟩)))
    (e : Blk) (hm : e ∈ hp) (hb : e.b = b) (hv : e.cs[off]? = some v) : Hy P n w0 mu l hp o v :=
  hy_run fun a w hk hG => by
    simp only [execOp, hop, hk.ev hx]
    have hc : w.cell? ⟨b, off, none⟩ = some v := by rw [← hb, cell_of_block (hG.here e hm)]; exact hv
    simp [run_load_sc hs hc]
theorem hy_load0 {t : TypeId} {x : Operand} {b off : Nat} {v : Value} (hop : o.op = .load t x) (hs : isSc P t = true) (hx : ev l x = some (.pointer (some ⟨b, off, none⟩)))
    (hc : w0.cell? ⟨b, off, none⟩ = some v) (hmu : b ∉ mu) : Hy P n w0 mu l hp o v :=
  hy_run fun a w hk hG => by
    simp only [execOp, hop, hk.ev hx]
    simp [run_load_sc hs (hG.cell hc hmu)]
theorem run_load_ag {t : TypeId} {w : World} {b off : Nat} {cs : List Value} (ha : isAg P t = true) (hs : szOf P t = some cs.length) (hc : w.rangeAt b off cs) : (Instr.loadAt t (.pointer (some ⟨b, off, none⟩))).run P w = .ok (.agg cs.toArray) w := by
  unfold isAg at ha
  cases hu : P.underlying t with
  | none => rw [hu] at ha; cases ha
  | some d =>
    rw [hu] at ha
    exact run_loadAt_mid w b off t cs d hc hu (by cases d <;> simp_all) hs
theorem hy_loadA {t : TypeId} {x : Operand} {b off : Nat} (vs : List Value) (hop : o.op = .load t x) (ha : isAg P t = true) (hx : ev l x = some (.pointer (some ⟨b, off, none⟩)))
    (e : Blk) (hm : e ∈ hp) (hb : e.b = b) (hs : szOf P t = some vs.length) (hv : (e.cs.toList.drop off).take vs.length = vs) : Hy P n w0 mu l hp o (.agg vs.toArray) :=
  hy_run fun a w hk hG => by
    simp only [execOp, hop, hk.ev hx]
    have hr : w.rangeAt b off vs := by
      intro j v hj
      rw [← hb, cell_of_block (hG.here e hm)]
      rw [← hv, List.getElem?_take] at hj
      split at hj
      · rw [List.getElem?_drop] at hj
        simpa using hj
      · cases hj
    simp [run_load_ag ha hs hr]
theorem hy_loadA0 {t : TypeId} {x : Operand} {b off : Nat} (vs : List Value) (hop : o.op = .load t x) (ha : isAg P t = true) (hx : ev l x = some (.pointer (some ⟨b, off, none⟩)))
    (hs : szOf P t = some vs.length) (hr : w0.rangeAt b off vs) (hmu : b ∉ mu) : Hy P n w0 mu l hp o (.agg vs.toArray) :=
  hy_run fun a w hk hG => by
    simp only [execOp, hop, hk.ev hx]
    have hr' : w.rangeAt b off vs := fun j v hj => hG.cell (hr j v hj) hmu
    simp [run_load_ag ha hs hr']
theorem add_lit (b o k : Nat) : (⟨b, o, none⟩ : Addr).add k = ⟨b, o + k, none⟩ := Addr.add_mid b o k
theorem hy_field {t : TypeId} {x : Operand} {k b off d : Nat} (hop : o.op = .fieldAddr t x k) (hx : ev l x = some (.pointer (some ⟨b, off, none⟩))) (hf : fOff P t k = some d) : Hy P n w0 mu l hp o (.pointer (some ⟨b, off + d, none⟩)) :=
  hy_run fun a w hk _ => by
    simp only [execOp, hop, hk.ev hx]
    unfold fOff at hf
    cases hu : P.underlying t with
    | none => rw [hu] at hf; cases hf
    | some dd =>
      rw [hu] at hf
      cases dd with
      | struct fs =>
        simp only at hf
        cases hq : fs[k]? with
        | none => rw [hq] at hf; cases hf
        | some f =>
          rw [hq] at hf
          simp only [Option.bind_some] at hf
          cases hz : szOf P f.type with
          | none => rw [hz] at hf; cases hf
          | some s =>
            rw [hz] at hf
            cases s with
            | zero => cases hf
            | succ s =>
              simp only [Option.some.injEq] at hf
              subst hf
              cases hi : P.info? f.type with
              | none => simp [szOf, hi] at hz
              | some i =>
                have hsz : i.size = s + 1 := by simpa [szOf, hi] using hz
                simp [Instr.fieldAt, Instr.sureAddr, run_underlying hu w, hq, fieldPlace, sizeOf, typeInfo, hi, hsz, add_lit]
      | _ => cases hf
theorem run_sizeOf {t : TypeId} {s : Nat} (h : szOf P t = some s) (w : World) : (sizeOf t).run P w = .ok s w := by
  cases hi : P.info? t with
  | none => simp [szOf, hi] at h
  | some i => have : i.size = s := by simpa [szOf, hi] using h
              simp [sizeOf, typeInfo, hi, this]
theorem hy_index {t e : TypeId} {x y : Operand} {b off m c s : Nat} {k : IntKind} {i : Int} (hop : o.op = .indexAddr t x y) (ht : P.underlying t = some (.slice e)) (hs : szOf P e = some s)
    (hx : ev l x = some (.slice (some ⟨b, off, none⟩) m c)) (hy : ev l y = some (.int k i)) (h0 : 0 ≤ i) (h1 : i < m) : Hy P n w0 mu l hp o (.pointer (some ⟨b, off + i.toNat * s, none⟩)) :=
  hy_run fun a w hk _ => by
    simp only [execOp, hop, hk.ev hx, hk.ev hy]
    simp [Instr.indexAt, run_underlying ht w, asIntOf, h0, h1, run_sizeOf hs w, add_lit]
theorem hy_indexR {t e : TypeId} {x y : Operand} {b off m s : Nat} {k : IntKind} {i : Int} (hop : o.op = .indexAddr t x y) (ht : P.underlying t = some (.array m e)) (hs : szOf P e = some s)
    (hx : ev l x = some (.pointer (some ⟨b, off, none⟩))) (hy : ev l y = some (.int k i)) (h0 : 0 ≤ i) (h1 : i < m) : Hy P n w0 mu l hp o (.pointer (some ⟨b, off + i.toNat * s, none⟩)) :=
  hy_run fun a w hk _ => by
    simp only [execOp, hop, hk.ev hx, hk.ev hy]
    simp [Instr.indexAt, Instr.sureAddr, run_underlying ht w, asIntOf, h0, h1, run_sizeOf hs w, add_lit]

/-! ### New blocks -/
theorem ops_new {b : Nat} (hg : o.guard = none) (hd : dlt o.dst n = true) (cs : Array Value) (t : TypeId) (_hb : b = b) (F : Nat → Value)
    (hrun : ∀ a w, Knows n l a → Good w0 mu hp w → (execOp a.eval o).run P w = .ok (.value (F w.heap.size)) (w.alloc (.cells cs t)))
    (h : ∀ b, Ops P n w0 mu all rest (upd l o.dst (F b)) (⟨b, cs, t⟩ :: hp) Q) : Ops P n w0 mu all (o :: rest) l hp Q := by
  intro a w hk hG
  refine wpList_plain hg fun K hK => ?_
  unfold Oper.wp
  rw [hrun a w hk hG]
  exact hK _ _ (h w.heap.size _ _ (hk.put (dlt_lt hd) _) (hG.alloc cs t))
theorem ops_alloc {t : TypeId} {z : Value} (hop : o.op = .alloc t) (hg : o.guard = none) (hd : dlt o.dst n = true) (hz : zeroOf P t = some z)
    (h : ∀ b, Ops P n w0 mu all rest (upd l o.dst (.pointer (some ⟨b, 0, none⟩))) (⟨b, z.cells, t⟩ :: hp) Q) : Ops P n w0 mu all (o :: rest) l hp Q :=
  ops_new (b := 0) hg hd z.cells t rfl (fun b => .pointer (some ⟨b, 0, none⟩)) (fun a w _ _ => by
    simp only [execOp, hop]
    cases hi : P.info? t with
    | none => simp [zeroOf, hi] at hz
    | some i =>
      have hz' : i.zero = some z := by simpa [zeroOf, hi] using hz
      simp [Instr.alloc, zeroValue, typeInfo, hi, hz', go_sem]) h
theorem ops_box {t : TypeId} {x : Operand} {v : Value} (hop : o.op = .box t x) (hg : o.guard = none) (hd : dlt o.dst n = true) (hx : ev l x = some v)
    (h : ∀ b, Ops P n w0 mu all rest (upd l o.dst (.pointer (some ⟨b, 0, none⟩))) (⟨b, v.cells, t⟩ :: hp) Q) : Ops P n w0 mu all (o :: rest) l hp Q :=
  ops_new (b := 0) hg hd v.cells t rfl (fun b => .pointer (some ⟨b, 0, none⟩)) (fun a w hk _ => by
    simp only [execOp, hop, hk.ev hx]
    simp [Instr.box, go_sem]) h
/-! ### Values that are built -/
/-- The places of a struct's fields. -/
def places (P : Program) (t : TypeId) : Option (Array (Nat × Nat)) :=
  match P.underlying t with
  | some (.struct fs) => fs.mapM fun f => (szOf P f.type).map fun s => (f.offset, s)
  | _ => none
theorem run_places {fs : Array Field} {ps : Array (Nat × Nat)} (h : (fs.mapM fun f => (szOf P f.type).map fun s => (f.offset, s)) = some ps) (w : World) :
    (fs.mapM fun f => do pure (f.offset, ← sizeOf f.type) : Sem (Array (Nat × Nat))).run P w = .ok ps w := by
  rw [← Array.toArray_toList (xs := fs)] at h ⊢
  simp only [List.mapM_toArray] at h ⊢
  generalize fs.toList = l at *
  have key : ∀ (l : List Field) (r : List (Nat × Nat)), (l.mapM fun f => (szOf P f.type).map fun s => (f.offset, s)) = some r → (l.mapM fun f => do pure (f.offset, ← sizeOf f.type) : Sem (List (Nat × Nat))).run P w = .ok r w := by
    intro l
    induction l with
    | nil => intro r h; simp at h; subst h; simp
    | cons f l ih =>
      intro r h
      rw [List.mapM_cons] at h
      cases hs : szOf P f.type with
      | none => simp [hs] at h
      | some s =>
        simp only [hs, Option.map_some, Option.bind_eq_bind, Option.bind_some] at h
        cases hm : (l.mapM fun f => (szOf P f.type).map fun s => (f.offset, s)) with
        | none => simp [hm] at h
        | some r' =>
          simp only [hm, Option.bind_some, Option.pure_def, Option.some.injEq] at h
          subst h
          rw [List.mapM_cons]
          simp only [Sem.run_bind, run_sizeOf hs w, Result.andThen_ok, Sem.run_pure, ih r' hm]
  cases hm : (l.mapM fun f => (szOf P f.type).map fun s => (f.offset, s)) with
  | none => simp [hm] at h
  | some r =>
    simp [hm] at h
    subst h
    have := key l r hm
    show Sem.run P ((List.mapM _ l) >>= fun x => pure x.toArray) w = _
    simp only [Sem.run_bind, this, Result.andThen_ok, Sem.run_pure]
def evs (l : Fm) : List Operand → Option (List Value)
  | [] => some []
  | x :: r => match ev l x, evs l r with | some v, some vs => some (v :: vs) | _, _ => none
theorem Knows.evs {a : Act} (hk : Knows n l a) : ∀ {xs : List Operand} {vs : List Value}, Proofs.YtdfkcjjbflcafaaGreat.evs l xs = some vs → xs.map a.eval = vs := by
  intro xs
  induction xs with
  | nil => intro vs h; simp [Proofs.YtdfkcjjbflcafaaGreat.evs] at h; subst h; rfl
  | cons x r ih =>
    intro vs h
    simp only [Proofs.YtdfkcjjbflcafaaGreat.evs] at h
    split at h
    · rename_i v vs' h1 h2
      simp only [Option.some.injEq] at h
      subst h
      simp [hk.ev h1, ih h2]
    · cases h
def evp (l : Fm) : List (Nat × Operand) → Option (List (Nat × Value))
  | [] => some []
  | (i, x) :: r => match ev l x, evp l r with | some v, some vs => some ((i, v) :: vs) | _, _ => none
theorem Knows.evp {a : Act} (hk : Knows n l a) : ∀ {xs : List (Nat × Operand)} {vs : List (Nat × Value)}, Proofs.YtdfkcjjbflcafaaGreat.evp l xs = some vs → (xs.map fun p => (p.1, a.eval p.2)) = vs := by
  intro xs
  induction xs with
  | nil => intro vs h; simp [Proofs.YtdfkcjjbflcafaaGreat.evp] at h; subst h; rfl
  | cons p r ih =>
    obtain ⟨i, x⟩ := p
    intro vs h
    simp only [Proofs.YtdfkcjjbflcafaaGreat.evp] at h
    split at h
    · rename_i v vs' h1 h2
      simp only [Option.some.injEq] at h
      subst h
      simp [hk.ev h1, ih h2]
    · cases h
theorem run_zero {t : TypeId} {z : Value} (hz : zeroOf P t = some z) (w : World) : (zeroValue t).run P w = .ok z w := by
  cases hi : P.info? t with
  | none => simp [zeroOf, hi] at hz
  | some i =>
    have hz' : i.zero = some z := by simpa [zeroOf, hi] using hz
    simp [zeroValue, typeInfo, hi, hz']
theorem hy_build {t : TypeId} {ps : List (Nat × Operand)} {vs : List (Nat × Value)} {z : Value} {pl : Array (Nat × Nat)} {out : Array Value} (hop : o.op = .build t ps.toArray) (hz : zeroOf P t = some z) (hpl : places P t = some pl)
    (hv : evp l ps = some vs) (hf : Instr.fill (pl[·]?) z.cells vs = some out) : Hy P n w0 mu l hp o (.agg out) :=
  hy_run fun a w hk _ => by
    simp only [execOp, hop]
    have e : (ps.toArray.map fun x => (x.1, a.eval x.2)) = vs.toArray := by rw [← hk.evp hv]; simp
    unfold places at hpl
    cases hu : P.underlying t with
    | none => rw [hu] at hpl; cases hpl
    | some d =>
      rw [hu] at hpl
      cases d with
      | struct fs =>
        have e2 := run_places hpl w
        simp only [Instr.build, Sem.run_bind, run_zero hz w, Result.andThen_ok, run_underlying hu w, e, e2]
        simp [hf]
      | _ => cases hpl
/-! ### Stores -/
def putAt : Array Value → Nat → List Value → Array Value
  | cs, _, [] => cs
  | cs, o, v :: r => putAt (cs.setIfInBounds o v) (o + 1) r
theorem Good.sets {w : World} {hp : Hp} {b : Nat} {t : TypeId} : ∀ (vs : List Value) (cs : Array Value) (o : Nat) (w : World), Good w0 mu (⟨b, cs, t⟩ :: hp) w → Good w0 mu (⟨b, putAt cs o vs, t⟩ :: hp) (w.setCells b o vs) := by
  intro vs
  induction vs with
  | nil => intro cs o w h; exact h
  | cons v r ih => intro cs o w h; exact ih _ _ _ (h.set o v)
theorem ops_store {t : TypeId} {x y : Operand} {b off : Nat} {v : Value} (vs : List Value) {cs : Array Value} {tb : TypeId} {hp' : Hp} (hop : o.op = .store t x y) (hg : o.guard = none) (hd : o.dst = none)
    (hx : ev l x = some (.pointer (some ⟨b, off, none⟩))) (hy : ev l y = some v) (hvc : v.cells = vs.toArray) (hv1 : vs.all (·.oneCell') = true) (hs : szOf P t = some vs.length) (hperm : (⟨b, cs, tb⟩ :: hp').Perm hp) (hlt : off + vs.length ≤ cs.size)
    (h : Ops P n w0 mu all rest l (⟨b, putAt cs off vs, tb⟩ :: hp') Q) : Ops P n w0 mu all (o :: rest) l hp Q := by
  intro a w hk hG
  refine wpList_plain hg fun K hK => ?_
  have hG' := hG.perm hperm
  have hb := hG'.here _ (List.mem_cons_self ..)
  have hst := run_storeCells_cells (P := P) b off vs 0 w
    (fun j hj => by rw [cell_of_block hb]; simp [show off + j < cs.size by omega])
    (fun j _ => free_of_block hb) (fun u hu => (List.all_eq_true.1 hv1) u hu)
  unfold Oper.wp
  have hrun : (execOp a.eval o).run P w = .ok .skip (w.setCells b off vs) := by
    simp only [execOp, hop, hk.ev hx, hk.ev hy]
    simp only [Nat.add_zero] at hst
    simp [Instr.storeAt, Instr.sureAddr, storeVar, hvc, run_sizeOf hs w, hst]
  rw [hrun]
  exact hK (a.put o.dst undef) _ (h _ _ (by rw [hd]; exact hk) (Good.sets (w := w) vs cs off w hG'))
/-! ### Calls -/
theorem run_call {f : FuncId} {fn : Func} {c : Code} {xs : List Operand} {vs : List Value} {tys : Array TypeId} {a : Act} (hop : o.op = .call { callee := .value (.func f), args := xs.toArray, argTypes := tys })
    (hf : P.funcs[f]? = some fn) (hname : (fn.name == "runtime.NumGoroutine") = false) (hb : fn.body = some c) (hk : Knows n l a) (hv : evs l xs = some vs) (w : World) : (execOp a.eval o).run P w = .ok (.enter f vs.toArray) w := by
  have e : xs.toArray.map a.eval = vs.toArray := by rw [← hk.evs hv]; simp
  rw [Conc.execOp_call_func hop, e]
  exact MuLone.run_callFunc_enter hf hname hb _ w
/-- A call whose answer is known, and that makes nothing that is looked at. -/
theorem hy_call {f : FuncId} {fn : Func} {c : Code} {xs : List Operand} {vs : List Value} {tys : Array TypeId} {v : Value} (hop : o.op = .call { callee := .value (.func f), args := xs.toArray, argTypes := tys })
    (hf : P.funcs[f]? = some fn) (hname : (fn.name == "runtime.NumGoroutine") = false) (hb : fn.body = some c) (hv : evs l xs = some vs)
    (hc : ∀ w, Good w0 mu hp w → Fn P f vs.toArray w [] (fun u _ => u = v)) : Hy P n w0 mu l hp o v := by
  intro a w hk hG K Q' hK
  unfold Oper.wp
  rw [run_call hop hf hname hb hk hv w]
  refine Calls.mono (hc w hG) ?_
  rintro e w' ⟨u, hn, rfl, hg', rfl⟩
  exact hK w' ((hG.trans hg').sub (List.sublist_append_right _ _))
theorem ops_call {f : FuncId} {fn : Func} {c : Code} {xs : List Operand} {vs : List Value} {tys : Array TypeId} {R : Value → Hp → Prop} (hop : o.op = .call { callee := .value (.func f), args := xs.toArray, argTypes := tys }) (hg : o.guard = none) (hd : dlt o.dst n = true)
    (hf : P.funcs[f]? = some fn) (hname : (fn.name == "runtime.NumGoroutine") = false) (hb : fn.body = some c) (hv : evs l xs = some vs)
    (hc : ∀ w, Good w0 mu hp w → Fn P f vs.toArray w [] R) (h : ∀ v hn, R v hn → Ops P n w0 mu all rest (upd l o.dst v) (hn ++ hp) Q) : Ops P n w0 mu all (o :: rest) l hp Q := by
  intro a w hk hG
  refine wpList_plain hg fun K hK => ?_
  unfold Oper.wp
  rw [run_call hop hf hname hb hk hv w]
  refine Calls.mono (hc w hG) ?_
  rintro e w' ⟨u, hn, rfl, hg', hR⟩
  exact hK _ _ (h u hn hR _ _ (hk.put (dlt_lt hd) u) (hG.trans hg'))
/-- A call that may write the known blocks 'hi'. -/
theorem ops_callM {f : FuncId} {fn : Func} {c : Code} {xs : List Operand} {vs : List Value} {tys : Array TypeId} {R : Value → Hp → Prop} (hi hp' : Hp) (hop : o.op = .call { callee := .value (.func f), args := xs.toArray, argTypes := tys }) (hg : o.guard = none) (hd : dlt o.dst n = true)
    (hf : P.funcs[f]? = some fn) (hname : (fn.name == "runtime.NumGoroutine") = false) (hb : fn.body = some c) (hv : evs l xs = some vs) (hperm : (hi ++ hp').Perm hp)
    (hc : ∀ w, Good w0 mu (hi ++ hp') w → Fn P f vs.toArray w (hi.map (·.b)) R) (h : ∀ v hn, R v hn → Ops P n w0 mu all rest (upd l o.dst v) (hn ++ hp') Q) : Ops P n w0 mu all (o :: rest) l hp Q := by
  intro a w hk hG
  refine wpList_plain hg fun K hK => ?_
  unfold Oper.wp
  rw [run_call hop hf hname hb hk hv w]
  refine Calls.mono (hc w (hG.perm hperm)) ?_
  rintro e w' ⟨u, hn, rfl, hg', hR⟩
  exact hK _ _ (h u hn hR _ _ (hk.put (dlt_lt hd) u) ((hG.perm hperm).transM hg'))
end
end Go.Proofs.YtdfkcjjbflcafaaGreat
