/- The engine: a drawn region in which a value is taken out late: it is the same as if what comes first behind the head had waited for it. No program in sight. -/
import Derived.Test.YtdfkcjjbflcafaaGreatEngM
namespace Go.Proofs.YtdfkcjjbflcafaaGreat
open Go.RowKit
set_option linter.unusedVariables false
set_option linter.unusedSimpArgs false
/-- No end but the usual one. -/
def noP (Q : Exit → Fm → Hp → Prop) : Exit → Fm → Hp → Prop
  | .normal, l, hp => Q .normal l hp
  | _, _, _ => False
theorem np_normal {Q : Exit → Fm → Hp → Prop} {l : Fm} {hp : Hp} (h : Q .normal l hp) : noP Q .normal l hp := h
/-- One waits for one more. -/
def addEdge (ops : Array Oper) (k i : Nat) : Array Oper := ops.modify k fun o => { o with after := o.after.push ⟨i, .data⟩ }
theorem addEdge_size (ops : Array Oper) (k i : Nat) : (addEdge ops k i).size = ops.size := by simp [addEdge]
theorem addEdge_ne {ops : Array Oper} {k i j : Nat} (h : j ≠ k) : (addEdge ops k i)[j]? = ops[j]? := by
  simp [addEdge, Array.getElem?_modify, Ne.symm h]
theorem addEdge_self {ops : Array Oper} {k i : Nat} : (addEdge ops k i)[k]? = (ops[k]?).map fun o => { o with after := o.after.push ⟨i, .data⟩ } := by
  simp [addEdge, Array.getElem?_modify]
theorem addEdge_dst {ops : Array Oper} {k i : Nat} (j : Nat) : ((addEdge ops k i)[j]?).bind (·.dst) = (ops[j]?).bind (·.dst) := by
  by_cases h : j = k
  · subst h; rw [addEdge_self]; cases ops[j]? <;> rfl
  · rw [addEdge_ne h]
theorem addEdge_yielded (ops : Array Oper) (k i : Nat) (tmps : Array Value) : yielded (addEdge ops k i) tmps = yielded ops tmps := by
  funext j
  unfold yielded
  rw [addEdge_dst]
theorem execOp_after (ρ : Operand → Value) (o : Oper) (af : Array Edge) : execOp ρ { o with after := af } = execOp ρ o := by
  obtain ⟨dst, op, type, pos, after, guard⟩ := o
  cases op <;> rfl
def noSel : Op → Bool
  | .select _ _ => false
  | _ => true
def isExt : Op → Bool
  | .extract _ _ => true
  | .move _ => true
  | _ => false
/-- What one waits for, at once; and what must be listed where it may come, out of its own waiting. -/
def deps (ops : Array Oper) (j : Nat) : List Nat := match ops[j]? with
  | some o => (o.after.toList.filter (Region.binds .any)).map (·.on)
  | none => []
def ancGo (ops : Array Oper) : Nat → List Nat → List Nat
  | 0, A => A
  | j + 1, A => ancGo ops j (bif mem A j then deps ops j ++ A else A)
theorem noSel_ok {o : Op} (h : noSel o = true) : ∀ cs b, o ≠ .select cs b := fun cs b e => by rw [e] at h; cases h
/-- What is asked of the two. -/
def lateB (ops : Array Oper) (k i : Nat) : Bool :=
  match ops[k]?, ops[i]? with
  | some ok, some oi =>
    !Nat.beq i k && oi.guard.isNone && isExt oi.op && noSel ok.op && oi.apart ops ok && (oi.after.all fun e => !Region.binds .any e || mem (ancGo ops k (deps ops k)) e.on) &&
      (List.range ops.size).all fun t => Nat.beq t i || Nat.beq t k || mem (ancGo ops k (deps ops k)) t || Region.waitsFor .any ops t i
  | _, _ => false
section
variable {P : Program} {ops : Array Oper} {Q' : Exit → Act → World → Prop} {k i : Nat} {listed : Array Bool}
theorem ready_edge {j : Nat} (h : j ∈ Region.ready .any (addEdge ops k i) listed) : j ∈ Region.ready .any ops listed := by
  obtain ⟨h0, o, ho, ha⟩ := mem_ready.1 h
  refine mem_ready.2 ⟨h0, ?_⟩
  by_cases hj : j = k
  · subst hj
    rw [addEdge_self] at ho
    cases hok : ops[j]? with
    | none => rw [hok] at ho; cases ho
    | some o2 =>
      rw [hok] at ho
      simp only [Option.map_some, Option.some.injEq] at ho
      subst ho
      exact ⟨o2, rfl, fun e he hb => ha e (by simp [he]) hb⟩
  · rw [addEdge_ne hj] at ho
    exact ⟨o, ho, ha⟩
theorem ready_edge_ne {j : Nat} (hj : j ≠ k) (h : j ∈ Region.ready .any ops listed) : j ∈ Region.ready .any (addEdge ops k i) listed := by
  obtain ⟨h0, o, ho, ha⟩ := mem_ready.1 h
  exact mem_ready.2 ⟨h0, o, by rw [addEdge_ne hj]; exact ho, ha⟩
theorem ready_edge_k (h : k ∈ Region.ready .any ops listed) (hi : listed.getD i false = true) : k ∈ Region.ready .any (addEdge ops k i) listed := by
  obtain ⟨h0, o, ho, ha⟩ := mem_ready.1 h
  refine mem_ready.2 ⟨h0, { o with after := o.after.push ⟨i, .data⟩ }, by rw [addEdge_self, ho]; rfl, fun e he hb => ?_⟩
  simp only [Array.mem_push] at he
  rcases he with he | rfl
  · exact ha e he hb
  · exact hi
theorem wpOp_edge {j : Nat} {K : Act → World → Prop} {a : Act} {w : World} (h : wpOp P (addEdge ops k i) Q' j K a w) : wpOp P ops Q' j K a w := by
  unfold wpOp at h ⊢
  rw [addEdge_yielded] at h
  by_cases hj : j = k
  · subst hj
    rw [addEdge_self] at h
    cases hok : ops[j]? with
    | none => rw [hok] at h; exact h
    | some o =>
      rw [hok] at h
      have e1 : ∀ y, Region.wanted { o with after := o.after.push ⟨i, .data⟩ } y = Region.wanted o y := fun _ => rfl
      have e2 : Oper.wp P { o with after := o.after.push ⟨i, .data⟩ } a w K Q' = Oper.wp P o a w K Q' := by
        unfold Oper.wp
        rw [execOp_after]
        cases (execOp a.eval o).run P w with
        | ok n w' => cases n <;> rfl
        | halt x w' => cases x <;> rfl
      have e3 : Oper.asks P { o with after := o.after.push ⟨i, .data⟩ } a w = Oper.asks P o a w := by
        unfold Oper.asks
        rw [execOp_after]
      simp only [Option.map_some, e1, e2, e3] at h ⊢
      exact h
  · rw [addEdge_ne hj] at h
    exact h
theorem waits_on {j t : Nat} {o : Oper} (ho : ops[j]? = some o) (hr : j ∈ Region.ready .any ops listed) (h : Region.waitsFor .any ops j t = true) : listed.getD t false = true := by
  obtain ⟨oj, h1, e, he, hb, rfl⟩ := Region.waitsFor_spec h
  obtain ⟨_, o2, h2, ha⟩ := mem_ready.1 hr
  rw [h1] at h2; cases h2
  exact ha e he hb
def Closed (ops : Array Oper) (listed : Array Bool) : Prop := ∀ j oj, ops[j]? = some oj → listed.getD j false = true → ∀ e ∈ oj.after, Region.binds .any e = true → listed.getD e.on false = true
theorem Closed.set (h : Closed ops listed) {j : Nat} (hr : j ∈ Region.ready .any ops listed) : Closed ops (listed.setIfInBounds j true) := by
  intro t ot hot hl e he hb
  obtain ⟨_, o, ho, ha⟩ := mem_ready.1 hr
  by_cases htj : t = j
  · subst htj
    rw [ho] at hot; cases hot
    exact getD_set_true (ha e he hb)
  · rw [getD_set_ne false (Ne.symm htj)] at hl
    exact getD_set_true (h t ot hot hl e he hb)
theorem deps_ok (h : Closed ops listed) {j : Nat} (hl : listed.getD j false = true) : ∀ t ∈ deps ops j, listed.getD t false = true := by
  intro t ht
  unfold deps at ht
  cases ho : ops[j]? with
  | none => rw [ho] at ht; cases ht
  | some o =>
    rw [ho] at ht
    obtain ⟨e, he, rfl⟩ := List.mem_map.1 ht
    rw [List.mem_filter] at he
    exact h j o ho hl e (by simpa using he.1) he.2
theorem anc_ok (h : Closed ops listed) : ∀ (n : Nat) (A : List Nat), (∀ t ∈ A, listed.getD t false = true) → ∀ t, mem (ancGo ops n A) t = true → listed.getD t false = true := by
  intro n
  induction n with
  | zero => intro A hA t ht; exact hA t (mem_mem ht)
  | succ n ih =>
    intro A hA
    refine ih _ ?_
    cases hm : mem A n with
    | false => simpa [hm] using hA
    | true =>
      intro t ht
      simp only [cond_true, List.mem_append] at ht
      rcases ht with ht | ht
      · exact deps_ok h (hA n (mem_mem hm)) t ht
      · exact hA t ht
theorem anc_ready {j : Nat} (h : Closed ops listed) (hr : j ∈ Region.ready .any ops listed) : ∀ t, mem (ancGo ops j (deps ops j)) t = true → listed.getD t false = true := by
  refine anc_ok h j _ fun t ht => ?_
  obtain ⟨_, o, ho, ha⟩ := mem_ready.1 hr
  unfold deps at ht
  rw [ho] at ht
  obtain ⟨e, he, rfl⟩ := List.mem_map.1 ht
  rw [List.mem_filter] at he
  exact ha e (by simpa using he.1) he.2
theorem getD_cases {b : Bool} {t : Nat} (h : listed.getD t b = false) (ht : t < listed.size) (c : Bool) : listed.getD t c = false := by
  simp [ht] at h ⊢; exact h
theorem edge_any (hB : lateB ops k i = true) (hP : ∀ c a w, ¬ Q' (.panic c) a w) (hO : ¬ LetsOut Q') :
    ∀ (fuel : Nat) (listed : Array Bool) (a : Act) (w : World), listed.size = ops.size → Closed ops listed → wpAny P .any (addEdge ops k i) Q' fuel listed a w → wpAny P .any ops Q' fuel listed a w := by
  unfold lateB at hB
  cases hok : ops[k]? with
  | none => rw [hok] at hB; cases hB
  | some ok =>
    cases hoi : ops[i]? with
    | none => rw [hok, hoi] at hB; cases hB
    | some oi =>
      rw [hok, hoi] at hB
      simp only [Bool.and_eq_true] at hB
      obtain ⟨⟨⟨⟨⟨⟨hne, hgu⟩, hex⟩, hsel⟩, hap⟩, hdep⟩, hall⟩ := hB
      have hik : i ≠ k := fun e => by rw [e] at hne; simp at hne
      have hgu' : oi.guard = none := by simpa using hgu
      have his : i < ops.size := (Array.getElem?_eq_some_iff.1 hoi).1
      have hks : k < ops.size := (Array.getElem?_eq_some_iff.1 hok).1
      -- where the one is ready and the late one is not listed, the late one is ready
      have hready : ∀ listed : Array Bool, listed.size = ops.size → Closed ops listed → k ∈ Region.ready .any ops listed → listed.getD i true = false → i ∈ Region.ready .any ops listed := by
        intro listed hsz hcl hr hi
        refine mem_ready.2 ⟨hi, oi, hoi, fun e he hb => ?_⟩
        have h1 := (Array.all_eq_true_iff_forall_mem.1 hdep) e he
        rw [hb] at h1
        exact anc_ready hcl hr _ (by simpa using h1)
      have hrest : ∀ listed : Array Bool, listed.size = ops.size → Closed ops listed → k ∈ Region.ready .any ops listed → listed.getD i true = false → ∀ t ∈ Region.ready .any ops (listed.setIfInBounds k true), t = i := by
        intro listed hsz hcl hr hi t ht
        obtain ⟨h0, ot, hot, hat⟩ := mem_ready.1 ht
        have hts : t < ops.size := (Array.getElem?_eq_some_iff.1 hot).1
        have h2 := List.all_eq_true.1 hall t (List.mem_range.2 hts)
        simp only [Bool.or_eq_true, Nat.beq_eq] at h2
        rcases h2 with ((h2 | h2) | h2) | h2
        · exact h2
        · subst h2
          simp [hsz, hks] at h0
        · have h3 := anc_ready hcl hr t h2
          by_cases htk : t = k
          · subst htk; simp [hsz, hks] at h0
          · rw [getD_set_ne true (Ne.symm htk)] at h0
            rw [getD_cases h0 (by omega) false] at h3
            cases h3
        · obtain ⟨oj, h3, e, he, hb, heq⟩ := Region.waitsFor_spec h2
          rw [hot] at h3; cases h3
          have h4 := hat e he hb
          rw [heq, getD_set_ne false (Ne.symm hik), getD_cases hi (by omega) false] at h4
          cases h4
      intro fuel
      induction fuel using Nat.strongRecOn with
      | ind fuel ih =>
      cases fuel with
      | zero =>
        intro listed a w hsz hcl h
        refine ⟨?_, h.2⟩
        rw [List.eq_nil_iff_forall_not_mem]
        intro j hj
        by_cases hjk : j = k
        · subst hjk
          cases hi : listed.getD i true with
          | true =>
            have : listed.getD i false = true := by
              cases hc : listed.getD i false with
              | true => rfl
              | false => rw [getD_in (by omega) hc] at hi; cases hi
            have := ready_edge_k (i := i) hj this
            rw [h.1] at this; cases this
          | false =>
            have := ready_edge_ne (i := i) hik (hready listed hsz hcl hj hi)
            rw [h.1] at this; cases this
        · have := ready_edge_ne (i := i) hjk hj
          rw [h.1] at this; cases this
      | succ fuel =>
        intro listed a w hsz hcl h
        have hsz' : ∀ t, (listed.setIfInBounds t true).size = ops.size := fun t => by simpa using hsz
        refine ⟨fun hnil => h.1 ?_, fun j hj => ?_⟩
        · rw [List.eq_nil_iff_forall_not_mem]
          intro t ht
          have := ready_edge ht
          rw [hnil] at this; cases this
        · by_cases hin : j ∈ Region.ready .any (addEdge ops k i) listed
          · exact wpOp_mono (fun a w h => ih fuel (by omega) _ a w (hsz' j) (hcl.set hj) h) (wpOp_edge (h.2 j hin))
          · have hjk : j = k := Classical.byContradiction fun hc => hin (ready_edge_ne hc hj)
            subst hjk
            have hi : listed.getD i true = false := by
              cases hc : listed.getD i true with
              | false => rfl
              | true =>
                exfalso
                refine hin (ready_edge_k hj ?_)
                cases hc2 : listed.getD i false with
                | true => rfl
                | false => rw [getD_in (by omega) hc2] at hc; cases hc
            have hir := hready listed hsz hcl hj hi
            have h1 := wpOp_edge (h.2 i (ready_edge_ne hik hir))
            -- what the late one yields
            have hyl : ∃ v, Yields P ops oi v a ∧ wpAny P .any (addEdge ops j i) Q' fuel (listed.setIfInBounds i true) (a.put oi.dst v) w := by
              unfold wpOp at h1
              simp only [hoi] at h1
              have hw : Region.wanted oi (yielded ops a.tmps) = true := by simp [Region.wanted, hgu']
              rw [if_pos hw] at h1
              rcases h1 with h1 | ⟨_, h1⟩
              · obtain ⟨d, op, ty, pos, af, gu⟩ := oi
                cases op <;> simp only [isExt, Bool.false_eq_true] at hex
                · rename_i x
                  unfold Oper.wp at h1
                  have hrun : ∀ w, (execOp a.eval ⟨d, .move x, ty, pos, af, gu⟩).run P w = .ok (.value (a.eval x)) w := fun w => by simp [execOp]
                  rw [hrun w] at h1
                  exact ⟨a.eval x, .inl ⟨hw, hrun⟩, h1⟩
                rename_i x m
                unfold Oper.wp at h1
                have hrun : ∀ w, (execOp a.eval ⟨d, .extract x m, ty, pos, af, gu⟩).run P w = (match a.eval x with
                    | .tuple vs => match vs[m]? with
                      | some v => .ok (.value v) w
                      | none => (execOp a.eval ⟨d, .extract x m, ty, pos, af, gu⟩).run P w
                    | _ => (execOp a.eval ⟨d, .extract x m, ty, pos, af, gu⟩).run P w) := by
                  intro w
                  cases hx : a.eval x <;> try rfl
                  rename_i vs
                  cases hm : vs[m]? with
                  | none => simp only [hm]
                  | some v => simp [execOp, Instr.extract, hx, hm]
                cases hx : a.eval x with
                | tuple vs =>
                  cases hm : vs[m]? with
                  | some v =>
                    refine ⟨v, .inl ⟨hw, fun w => by rw [hrun w, hx]; simp only [hm]⟩, ?_⟩
                    rw [hrun w, hx] at h1
                    simp only [hm] at h1
                    exact h1
                  | none => simp [execOp, Instr.extract, hx, hm, stuck, Oper.upon] at h1
                | _ => simp [execOp, Instr.extract, hx, stuck, Oper.upon] at h1
              · exact absurd h1 hO
            obtain ⟨v, hy, h2⟩ := hyl
            have hkr : j ∈ Region.ready .any ops (listed.setIfInBounds i true) := ready_mono hj (Ne.symm hik)
            have hkr' : j ∈ Region.ready .any (addEdge ops j i) (listed.setIfInBounds i true) := ready_edge_k hkr (by simp [hsz, his])
            cases fuel with
            | zero => rw [h2.1] at hkr'; cases hkr'
            | succ m =>
              have h3 := wpOp_edge (h2.2 j hkr')
              have h4 := wpOp_put hok hap (fun cs b e => by rw [e] at hex; cases hex) (noSel_ok hsel) (fun c a w h => absurd h (hP c _ w)) hy h3
              refine wpOp_mono (fun a' w' h5 => ?_) h4
              obtain ⟨hy', h5⟩ := h5
              have hir2 : i ∈ Region.ready .any ops (listed.setIfInBounds j true) := ready_mono hir hik
              refine ⟨fun hnil => (by rw [hnil] at hir2; cases hir2), fun t ht => ?_⟩
              have hti := hrest listed hsz hcl hj hi t ht
              subst hti
              refine hy'.wpOp hoi ?_
              have h6 := ih m (by omega) ((listed.setIfInBounds t true).setIfInBounds j true) _ _ (by simpa using hsz) ((hcl.set hir).set hkr) h5
              rw [Array.setIfInBounds_comm _ _ hik] at h6
              exact h6
/-- A region in which a value is taken out late. -/
theorem st_late {P : Program} {n : Nat} {w0 : World} {mu : List Nat} {l : Fm} {hp : Hp} {Q : Exit → Fm → Hp → Prop} {ops ops' : Array Oper} (k i : Nat) (hB : lateB ops k i = true) (he : addEdge ops k i = ops') (h : StAny P n w0 mu ops' l hp (noP Q)) : StAny P n w0 mu ops l hp (noP Q) := by
  subst he
  intro a w hk hG
  have := h a w hk hG
  rw [addEdge_size] at this
  refine edge_any hB ?_ ?_ _ _ _ _ (by simp) (fun j oj _ hl => by rw [getD_replicate_false] at hl; cases hl) this
  · rintro c a w ⟨l, hp, _, _, h⟩; exact h
  · rintro ⟨a, w, l, hp, _, _, h⟩; exact h
theorem st_noP {P : Program} {n : Nat} {w0 : World} {mu : List Nat} {l : Fm} {hp : Hp} {Q : Exit → Fm → Hp → Prop} {id : Nat} {ops : Array Oper} (hm : P.follows .mixedOrders = true) (h : StAny P n w0 mu ops l hp (noP Q)) : St P n w0 mu (.region id ops true) l hp Q :=
  st_mono (st_any hm h) fun e l hp h => by
    cases e with
    | normal => exact h
    | _ => exact h.elim
end
section
variable {P : Program} {n : Nat} {w0 : World} {mu : List Nat} {l : Fm} {hp : Hp} {Q : Exit → Fm → Hp → Prop}
theorem st_condT {c : Operand} {x y : Code} {b : Bool} (hc : ev l c = some (.bool b)) (hb : b = true) (h : St P n w0 mu x l hp Q) : St P n w0 mu (.cond c x y) l hp Q := st_cond b hc (fun _ => h) (fun e => by rw [hb] at e; cases e)
theorem st_condF {c : Operand} {x y : Code} {b : Bool} (hc : ev l c = some (.bool b)) (hb : b = false) (h : St P n w0 mu y l hp Q) : St P n w0 mu (.cond c x y) l hp Q := st_cond b hc (fun e => by rw [hb] at e; cases e) (fun _ => h)
/-- A call of a closure that writes known blocks. -/
theorem z_callFM {all : Array Oper} {rest : List Oper} {ty : TypeId} {pos : String} {af : Array Edge} {f : FuncId} {d : Nat} {x : Operand} {xs : List Operand} {vs fs us : List Value} {tys : Array TypeId} {R : Value → Hp → Prop} (hcal : Cal P f) (hi hp' : Hp) (hd : Nat.blt d n = true) (hx : ev l x = some (.func (.func f) fs.toArray us.toArray)) (hv : evs l xs = some vs) (hperm : (hi ++ hp').Perm hp)
    (hc : ∀ w, Good w0 mu (hi ++ hp') w → Fn P f (fs ++ vs ++ us).toArray w (hi.map (·.b)) R) (h : ∀ v hn, R v hn → Ops P n w0 mu all rest ((d, v) :: l) (hn ++ hp') Q) : Ops P n w0 mu all (⟨some d, .call { callee := .value x, args := xs.toArray, argTypes := tys }, ty, pos, af, none⟩ :: rest) l hp Q := by
  obtain ⟨fn, c, hf, hname, hb⟩ := hcal
  intro a w hk hG
  refine wpList_plain rfl fun K hK => ?_
  unfold Oper.wp
  rw [run_callV rfl hx hf hname hb hk hv w]
  refine Calls.mono (hc w (hG.perm hperm)) ?_
  rintro e w' ⟨u, hn, rfl, hg', hR⟩
  exact hK _ _ (h u hn hR _ _ (Knows.put (d := some d) hk (fun t ht => by cases ht; simpa using hd) u) ((hG.perm hperm).transM hg'))
end
end Go.Proofs.YtdfkcjjbflcafaaGreat
