/- The engine: a region that draws its order. Its head: operations that yield, each from what it waits for; its tail: a forced row. No program in sight. -/
import Derived.Test.YtdfkcjjbflcafaaGreatEngE
import Derived.StillTail
namespace Go.Proofs.YtdfkcjjbflcafaaGreat
open Go.RowKit
set_option linter.unusedVariables false
set_option linter.unusedSimpArgs false

def dstAt (all : Array Oper) (k : Nat) : Option Nat := (all[k]?).bind (·.dst)
/-- The slots that a row of operations writes, by their places. -/
def dstTab : List Oper → Nat → List (Nat × Nat)
  | [], _ => []
  | o :: r, i => match o.dst with
    | some d => (i, d) :: dstTab r (i + 1)
    | none => dstTab r (i + 1)
def depFm (ds : List (Nat × Nat)) (iv : Fm) : List Edge → Fm
  | [] => []
  | e :: r => match Region.binds .any e, lk ds e.on, look iv e.on with
    | true, some d, some v => (d, v) :: depFm ds iv r
    | _, _, _ => depFm ds iv r
def headFm (ds : List (Nat × Nat)) : Fm → Fm
  | [] => []
  | (k, v) :: r => match lk ds k with
    | some d => (d, v) :: headFm ds r
    | none => headFm ds r
def HyG (P : Program) (n : Nat) (w0 : World) (mu : List Nat) (all : Array Oper) (lf : Fm) (hp : Hp) (o : Oper) (v : Value) : Prop :=
  match o.guard with
  | none => Hy P n w0 mu lf hp o v
  | some (j, want) => ∃ dj c0 b u, (all[j]?).bind (·.dst) = some dj ∧ look lf dj = some (gv c0 (.bool b)) ∧ Nat.blt dj n = true ∧ (c0 = true → wnt b want = true → Hy P n w0 mu lf hp o u) ∧ v = gv (c0 && wnt b want) u
def DH (P : Program) (n : Nat) (w0 : World) (mu : List Nat) (all : Array Oper) (ds : List (Nat × Nat)) (tail : List Oper) (l : Fm) (hp : Hp) (Q : Exit → Fm → Hp → Prop) : Nat → List Oper → Fm → Prop
  | _, [], iv => Ops P n w0 mu all tail (headFm ds iv ++ l) hp Q
  | i, o :: r, iv => ∃ v, HyG P n w0 mu all (depFm ds iv o.after.toList ++ l) hp o v ∧ DH P n w0 mu all ds tail l hp Q (i + 1) r ((i, v) :: iv)

/-- Every edge leads back. -/
def backB (ops : Array Oper) : Bool := (List.range ops.size).all fun i => match ops[i]? with | some o => o.after.all fun e => !Region.binds .any e || Nat.blt e.on i | none => true
/-- The head's slots: there, each another. -/
def dstsOf (ops : Array Oper) (k : Nat) : List (Option Nat) := (List.range k).map (dstAt ops)
def dstB (ops : Array Oper) (k n : Nat) : Bool := ((dstsOf ops k).all fun d => match d with | some d => Nat.blt d n | none => false) && decide (dstsOf ops k).Nodup
def freshB (l : Fm) : List (Option Nat) → Bool
  | [] => true
  | some d :: r => (look l d).isNone && freshB l r
  | none :: r => freshB l r

section
variable {P : Program} {n : Nat} {w0 : World} {mu : List Nat} {l : Fm} {hp : Hp} {Q : Exit → Fm → Hp → Prop}
theorem look_append {a b : Fm} {t : Nat} {v : Value} (h : look (a ++ b) t = some v) : look a t = some v ∨ (look a t = none ∧ look b t = some v) := by
  induction a with
  | nil => exact .inr ⟨rfl, h⟩
  | cons p r ih =>
    obtain ⟨k, u⟩ := p
    simp only [List.cons_append, look] at h ⊢
    cases hb : Nat.beq k t with
    | true => rw [hb] at h; exact .inl h
    | false => rw [hb] at h; simpa using ih h
theorem look_mem {a : Fm} {t : Nat} {v : Value} (h : look a t = some v) : (t, v) ∈ a := by
  induction a with
  | nil => cases h
  | cons p r ih =>
    obtain ⟨k, u⟩ := p
    simp only [look] at h
    cases hb : Nat.beq k t with
    | true =>
      rw [hb] at h
      simp only [cond_true, Option.some.injEq] at h
      rw [← beq_iff.1 hb, ← h]; exact List.mem_cons_self ..
    | false => rw [hb] at h; exact List.mem_cons_of_mem _ (ih h)
theorem depFm_mem {ds : List (Nat × Nat)} {iv : Fm} {es : List Edge} {d : Nat} {v : Value} (h : (d, v) ∈ depFm ds iv es) : ∃ e ∈ es, Region.binds .any e = true ∧ lk ds e.on = some d ∧ look iv e.on = some v := by
  induction es with
  | nil => cases h
  | cons e r ih =>
    simp only [depFm] at h
    split at h
    · rename_i d' v' h1 h2 h3
      rcases List.mem_cons.1 h with h | h
      · cases h; exact ⟨e, List.mem_cons_self .., h1, h2, h3⟩
      · obtain ⟨e', h4, h5⟩ := ih h; exact ⟨e', List.mem_cons_of_mem _ h4, h5⟩
    · obtain ⟨e', h4, h5⟩ := ih h; exact ⟨e', List.mem_cons_of_mem _ h4, h5⟩
theorem headFm_mem {ds : List (Nat × Nat)} {iv : Fm} {d : Nat} {v : Value} (h : (d, v) ∈ headFm ds iv) : ∃ k, (k, v) ∈ iv ∧ lk ds k = some d := by
  induction iv with
  | nil => cases h
  | cons p r ih =>
    obtain ⟨k, u⟩ := p
    simp only [headFm] at h
    split at h
    · rename_i d' h1
      rcases List.mem_cons.1 h with h | h
      · cases h; exact ⟨k, List.mem_cons_self .., h1⟩
      · obtain ⟨k', h2, h3⟩ := ih h; exact ⟨k', List.mem_cons_of_mem _ h2, h3⟩
    · obtain ⟨k', h2, h3⟩ := ih h; exact ⟨k', List.mem_cons_of_mem _ h2, h3⟩

/-- The values of the head, out of the row of its rules: one for each place. -/
theorem dh_vals {all : Array Oper} {ds : List (Nat × Nat)} {tail : List Oper} : ∀ (r : List Oper) (i : Nat) (iv : Fm), (∀ k v, (k, v) ∈ iv → k < i ∧ look iv k = some v) → DH P n w0 mu all ds tail l hp Q i r iv →
    ∃ ivE : Fm, (∀ k, k < i → look ivE k = look iv k) ∧ (∀ k v, (k, v) ∈ ivE → k < i + r.length ∧ look ivE k = some v) ∧
      (∀ j o, r[j]? = some o → ∃ iv' v, (∀ k u, look iv' k = some u → k < i + j ∧ look ivE k = some u) ∧ look ivE (i + j) = some v ∧ HyG P n w0 mu all (depFm ds iv' o.after.toList ++ l) hp o v) ∧
      Ops P n w0 mu all tail (headFm ds ivE ++ l) hp Q := by
  intro r
  induction r with
  | nil =>
    intro i iv hu h
    exact ⟨iv, fun _ _ => rfl, fun k v hm => by simpa using hu k v hm, fun j o ho => by simp at ho, h⟩
  | cons o r ih =>
    intro i iv hu h
    obtain ⟨v, hy, h⟩ := h
    have hu' : ∀ k u, (k, u) ∈ ((i, v) :: iv : Fm) → k < i + 1 ∧ look ((i, v) :: iv) k = some u := by
      intro k u hm
      rcases List.mem_cons.1 hm with hm | hm
      · cases hm
        refine ⟨by omega, ?_⟩
        simp only [look]
        rw [beq_iff.2 rfl]; rfl
      · obtain ⟨h1, h2⟩ := hu k u hm
        refine ⟨by omega, ?_⟩
        simp only [look]
        have : Nat.beq i k = false := by
          cases hb : Nat.beq i k
          · rfl
          · have := beq_iff.1 hb; omega
        rw [this]; exact h2
    obtain ⟨ivE, e1, e2, e3, e4⟩ := ih (i + 1) ((i, v) :: iv) hu' h
    have eold : ∀ k, k < i → look ivE k = look iv k := by
      intro k hk
      rw [e1 k (by omega)]
      simp only [look]
      have : Nat.beq i k = false := by
        cases hb : Nat.beq i k
        · rfl
        · have := beq_iff.1 hb; omega
      rw [this]; rfl
    have ehere : look ivE i = some v := by
      rw [e1 i (by omega)]
      simp only [look]
      rw [beq_iff.2 rfl]; rfl
    refine ⟨ivE, eold, fun k u hm => ?_, fun j o' ho => ?_, e4⟩
    · have := e2 k u hm
      simp only [List.length_cons]
      exact ⟨by omega, this.2⟩
    · cases j with
      | zero =>
        simp only [List.getElem?_cons_zero, Option.some.injEq] at ho
        subst ho
        refine ⟨iv, v, fun k u hk => ?_, by simpa using ehere, hy⟩
        have h1 := hu k u (look_mem hk)
        exact ⟨by omega, by rw [eold k h1.1]; exact hk⟩
      | succ j =>
        simp only [List.getElem?_cons_succ] at ho
        obtain ⟨iv', v', h1, h2, h3⟩ := e3 j o' ho
        refine ⟨iv', v', fun k u hk => ?_, by rw [show i + (j + 1) = i + 1 + j by omega]; exact h2, h3⟩
        have := h1 k u hk
        exact ⟨by omega, this.2⟩

/-- What holds while the head is being done. -/
structure Mid (n : Nat) (w0 : World) (mu : List Nat) (all : Array Oper) (l : Fm) (hp : Hp) (ivE : Fm) (k : Nat) (listed : Array Bool) (a : Act) (w : World) : Prop where
  size : a.tmps.size = n
  defers : a.defers = []
  has : ∀ t v, look l t = some v → a.tmps.getD t undef = v
  done : ∀ i, i < k → listed.getD i false = true → ∀ d v, dstAt all i = some d → look ivE i = some v → a.tmps.getD d undef = v
  good : Good w0 mu hp w
theorem mid_step {all : Array Oper} {ivE : Fm} {k i : Nat} {listed : Array Bool} {a : Act} {w w' : World} {o : Oper} {v : Value} (hm : Mid n w0 mu all l hp ivE k listed a w) (ho : all[i]? = some o) (hi : i < k)
    (hd : dstB all k n = true) (hf : freshB l (dstsOf all k) = true) (hv : look ivE i = some v) (hG : Good w0 mu hp w') : Mid n w0 mu all l hp ivE k (listed.setIfInBounds i true) (a.put o.dst v) w' := by
  simp only [dstB, Bool.and_eq_true, decide_eq_true_eq] at hd
  have hdi : ∀ j, j < k → ∃ d, dstAt all j = some d ∧ d < n := by
    intro j hj
    have := List.all_eq_true.1 hd.1 (dstAt all j) (List.mem_map.2 ⟨j, List.mem_range.2 hj, rfl⟩)
    cases hdd : dstAt all j with
    | none => rw [hdd] at this; cases this
    | some d => rw [hdd] at this; exact ⟨d, rfl, by simpa using this⟩
  obtain ⟨d, hdo, hdn⟩ := hdi i hi
  have hod : o.dst = some d := by simpa [dstAt, ho] using hdo
  have hfr : ∀ (L : List (Option Nat)), freshB l L = true → some d ∈ L → look l d = none := by
    intro L
    induction L with
    | nil => intro _ h; cases h
    | cons x r ih =>
      intro hL hmem
      cases x with
      | none =>
        rcases List.mem_cons.1 hmem with h | h
        · cases h
        · exact ih hL h
      | some y =>
        simp only [freshB, Bool.and_eq_true, Option.isNone_iff_eq_none] at hL
        rcases List.mem_cons.1 hmem with h | h
        · cases h; exact hL.1
        · exact ih hL.2 h
  have hnew : look l d = none := hfr _ hf (List.mem_map.2 ⟨i, List.mem_range.2 hi, hdo⟩)
  have hput : ∀ t, t ≠ d → (a.put o.dst v).tmps.getD t undef = a.tmps.getD t undef := by
    intro t ht
    rw [hod]
    simp [Act.put, Array.getElem?_setIfInBounds_ne (Ne.symm ht)]
  refine ⟨by rw [hod]; simpa [Act.put] using hm.size, by rw [hod]; exact hm.defers, ?_, ?_, hG⟩
  · intro t u hu
    rw [hput t (fun e => by subst e; rw [hnew] at hu; cases hu)]
    exact hm.has t u hu
  · intro j hj hl d' u hd' hu
    by_cases hji : j = i
    · subst hji
      rw [hdo] at hd'
      cases hd'
      rw [hv] at hu
      cases hu
      rw [hod]
      simp [Act.put, hm.size, hdn]
    · have hne : d' ≠ d := by
        intro e
        subst e
        have hnd := hd.2
        have h1 : (dstsOf all k)[j]? = some (some d') := by simp [dstsOf, hj, hd']
        have h2 : (dstsOf all k)[i]? = some (some d') := by simp [dstsOf, hi, hdo]
        have hjl := (List.getElem?_eq_some_iff.1 h1).1
        have hil := (List.getElem?_eq_some_iff.1 h2).1
        have e1 := (List.getElem?_eq_some_iff.1 h1).2
        have e2 := (List.getElem?_eq_some_iff.1 h2).2
        have this : j = i := (List.getElem_inj hnd (h₀ := hjl) (h₁ := hil)).1 (by rw [e1, e2])
        exact hji this
      rw [hput d' hne]
      refine hm.done j hj ?_ d' u hd' hu
      rwa [getD_set_ne false (Ne.symm hji)] at hl
theorem dstTab_ok : ∀ (L : List Oper) (i k d : Nat), lk (dstTab L i) k = some d → i ≤ k ∧ (L[k - i]?).bind (·.dst) = some d := by
  intro L
  induction L with
  | nil => intro i k d h; cases h
  | cons o r ih =>
    intro i k d h
    simp only [dstTab] at h
    have step : lk (dstTab r (i + 1)) k = some d → i ≤ k ∧ ((o :: r)[k - i]?).bind (·.dst) = some d := by
      intro h
      obtain ⟨h1, h2⟩ := ih _ _ _ h
      refine ⟨by omega, ?_⟩
      rw [show k - i = (k - (i + 1)) + 1 by omega]
      simpa using h2
    split at h
    · rename_i d' hd
      simp only [lk] at h
      cases hb : Nat.beq i k with
      | true =>
        rw [hb] at h
        have := beq_iff.1 hb
        subst this
        simp only [cond_true, Option.some.injEq] at h
        subst h
        simpa using hd
      | false => rw [hb] at h; exact step h
    · exact step h
theorem depFm_look {all : Array Oper} {ds : List (Nat × Nat)} (hds : ∀ k d, lk ds k = some d → dstAt all k = some d) {iv' ivE : Fm} {k i : Nat} {listed : Array Bool} {a : Act} {w : World} {o : Oper} (hm : Mid n w0 mu all l hp ivE k listed a w) (hi : i < k)
    (hiv : ∀ j u, look iv' j = some u → j < i ∧ look ivE j = some u) (hl : ∀ e ∈ o.after, Region.binds .any e = true → listed.getD e.on false = true) : Knows n (depFm ds iv' o.after.toList ++ l) a := by
  refine ⟨hm.size, hm.defers, fun t v h => ?_⟩
  rcases look_append h with h | ⟨_, h⟩
  · obtain ⟨e, he, h1, h2, h3⟩ := depFm_mem (look_mem h)
    obtain ⟨h4, h5⟩ := hiv _ _ h3
    exact hm.done e.on (by omega) (hl e (by simpa using he) h1) t v (hds _ _ h2) h5
  · exact hm.has t v h
/-- How many of the head are still to come. -/
def leftOf (k : Nat) (listed : Array Bool) : Nat := ((List.range k).filter fun i => !listed.getD i true).length
theorem left_set {k i : Nat} {listed : Array Bool} (hi : i < k) (hs : i < listed.size) (h : listed.getD i true = false) : leftOf k listed = leftOf k (listed.setIfInBounds i true) + 1 := by
  unfold leftOf
  induction k with
  | zero => omega
  | succ k ih =>
    simp only [List.range_succ, List.filter_append, List.length_append]
    by_cases hik : i = k
    · subst hik
      have e1 : (List.filter (fun j => !listed.getD j true) [i]).length = 1 := by rw [List.filter_cons, if_pos (by simp only [h, Bool.not_false])]; rfl
      have e2 : (List.filter (fun j => !(listed.setIfInBounds i true).getD j true) [i]).length = 0 := by simp [hs]
      have e3 : ∀ (L : List Nat), (∀ j ∈ L, j < i) → (L.filter fun j => !listed.getD j true) = L.filter fun j => !(listed.setIfInBounds i true).getD j true := by
        intro L hL
        refine List.filter_congr fun j hj => ?_
        rw [getD_set_ne true (show i ≠ j by have := hL j hj; omega)]
      rw [e1, e2, e3 _ (fun j hj => by simpa using hj)]
    · have := ih (by omega)
      have e4 : (List.filter (fun j => !listed.getD j true) [k]) = List.filter (fun j => !(listed.setIfInBounds i true).getD j true) [k] := by
        refine List.filter_congr fun j hj => ?_
        have : j = k := by simpa using hj
        rw [getD_set_ne true (show i ≠ j by omega)]
      rw [this, e4]; omega
theorem head_run {all : Array Oper} {ds : List (Nat × Nat)} (hds : ∀ k d, lk ds k = some d → dstAt all k = some d) {ivE : Fm} {k g : Nat} {Q' : Exit → Act → World → Prop} (hk : k ≤ all.size) (hd : dstB all k n = true) (hf : freshB l (dstsOf all k) = true) (hback : backB all = true)
    (hops : ∀ i o, i < k → all[i]? = some o → ∃ iv' v, (∀ j u, look iv' j = some u → j < i ∧ look ivE j = some u) ∧ look ivE i = some v ∧ HyG P n w0 mu all (depFm ds iv' o.after.toList ++ l) hp o v)
    (htail : ∀ listed, HeadInv .any all k listed → (∀ i, i < k → listed.getD i true = true) → ∀ a w, Mid n w0 mu all l hp ivE k listed a w → wpAny P .any all Q' g listed a w)
    (hwait : ∀ listed, HeadInv .any all k listed → ∀ i, i < k → listed.getD i true = false → ∀ t, k ≤ t → t ∉ Region.ready .any all listed) :
    ∀ f listed a w, leftOf k listed = f → HeadInv .any all k listed → Mid n w0 mu all l hp ivE k listed a w → wpAny P .any all Q' (f + g) listed a w := by
  intro f
  induction f with
  | zero =>
    intro listed a w hlf inv hm
    rw [Nat.zero_add]
    refine htail listed inv (fun i hi => ?_) a w hm
    cases hc : listed.getD i true with
    | true => rfl
    | false =>
      exfalso
      have : i ∈ (List.range k).filter fun i => !listed.getD i true := List.mem_filter.2 ⟨List.mem_range.2 hi, by simp only [hc, Bool.not_false]⟩
      have h2 := List.length_pos_of_mem this
      unfold leftOf at hlf
      omega
  | succ f ih =>
    intro listed a w hlf inv hm
    rw [show f + 1 + g = (f + g) + 1 by omega]
    have hex : ∃ i, i < k ∧ listed.getD i true = false := by
      have h2 : 0 < leftOf k listed := by omega
      obtain ⟨i, hi⟩ := List.exists_mem_of_length_pos h2
      rw [List.mem_filter] at hi
      exact ⟨i, List.mem_range.1 hi.1, by simpa using hi.2⟩
    obtain ⟨i0, hi0k, hi0⟩ := hex
    refine ⟨fun hnil => ?_, fun i hi => ?_⟩
    · exfalso
      obtain ⟨i, ⟨hik, hil⟩, hmin⟩ := exists_least (p := fun i => i < k ∧ listed.getD i true = false) ⟨i0, hi0k, hi0⟩
      have hr : i ∈ Region.ready .any all listed := by
        rw [mem_ready]
        have hs : i < all.size := by omega
        refine ⟨hil, all[i], by simp [hs], fun e he hb => ?_⟩
        have hb2 := List.all_eq_true.1 hback i (List.mem_range.2 hs)
        simp only [Array.getElem?_eq_getElem hs] at hb2
        have hb3 := (Array.all_eq_true_iff_forall_mem.1 hb2) e he
        simp only [hb, Bool.not_true, Bool.false_or, Nat.blt_eq] at hb3
        cases hc : listed.getD e.on false with
        | true => rfl
        | false =>
          have h5 := hmin e.on ⟨by omega, getD_in (by rw [inv.size]; omega) hc⟩
          omega
      rw [hnil] at hr; cases hr
    · have hik : i < k := by
        rcases Nat.lt_or_ge i k with h | h
        · exact h
        · exact absurd hi (hwait listed inv i0 hi0k hi0 i h)
      obtain ⟨hun, o, ho, hall⟩ := mem_ready.1 hi
      obtain ⟨iv', v, h1, h2, h3⟩ := hops i o hik ho
      have hkn := depFm_look hds hm hik h1 hall
      have hnext : ∀ w', Good w0 mu hp w' → wpAny P .any all Q' (f + g) (listed.setIfInBounds i true) (a.put o.dst v) w' := fun w' hG' =>
        ih _ _ _ (by have := left_set hik (by rw [inv.size]; omega) hun; omega) (inv.set hi hik) (mid_step hm ho hik hd hf h2 hG')
      unfold wpOp
      simp only [ho]
      unfold HyG at h3
      cases hg : o.guard with
      | none =>
        rw [hg] at h3
        rw [if_pos (by simp [Region.wanted, hg])]
        exact .inl (h3 a w hkn hm.good _ _ hnext)
      | some jw =>
        obtain ⟨j, want⟩ := jw
        rw [hg] at h3
        obtain ⟨dj, c0, b, u, hj, hb, hdj, hy, hvv⟩ := h3
        have hw := wanted_of hkn hg hj hb hdj
        cases hc : (c0 && wnt b want) with
        | true =>
          rw [hc] at hw hvv
          rw [if_pos hw]
          rw [Bool.and_eq_true] at hc
          rw [show v = u from hvv] at hnext
          exact .inl (hy hc.1 hc.2 a w hkn hm.good _ _ hnext)
        | false =>
          rw [hc] at hw hvv
          rw [if_neg (by rw [hw]; decide)]
          rw [show v = undef from hvv] at hnext
          exact hnext w hm.good
/-- What is asked of the region's text: where the head ends, that the tail waits for it and is a forced row. -/
def drawB (ops : Array Oper) (k n : Nat) : Bool :=
  decide (k < ops.size) && dstB ops k n && backB ops && Region.sinkB .any ops k && Region.chainB .any ops k && Region.seqB .any ops (ops.size - k) k ((Array.replicate k true) ++ (Array.replicate (ops.size - k) false))
theorem st_draw {id : Nat} {ops : List Oper} (k : Nat) (hm : P.follows .mixedOrders = true) (hB : drawB ops.toArray k n = true) (hf : freshB l (dstsOf ops.toArray k) = true)
    (h : DH P n w0 mu ops.toArray (dstTab ops 0) (ops.drop k) l hp Q 0 (ops.take k) []) : St P n w0 mu (.region id ops.toArray true) l hp Q := by
  intro a w hk hG
  simp only [drawB, Bool.and_eq_true, decide_eq_true_eq] at hB
  obtain ⟨⟨⟨⟨⟨hlt, hd⟩, hback⟩, hs⟩, hc⟩, hseq⟩ := hB
  obtain ⟨ivE, _, hE, hops, htail⟩ := dh_vals _ _ _ (by simp) h
  have hks : k ≤ ops.toArray.size := by omega
  have htl : (ops.take k).length = k := by simp at hlt ⊢; omega
  have inv0 : HeadInv .any ops.toArray k (Array.replicate ops.toArray.size false) :=
    ⟨by simp, fun j oj _ hl => (by rw [getD_replicate_false] at hl; cases hl), fun t _ ht => getD_in (by simpa using ht) (getD_replicate_false _ _)⟩
  have hleft : leftOf k (Array.replicate ops.toArray.size false) = k := by
    unfold leftOf
    rw [List.filter_eq_self.2]
    · simp
    · intro i hi
      have hi' : i < k := by simpa using hi
      have : (Array.replicate ops.toArray.size false).getD i true = false := getD_in (by simp at hlt ⊢; omega) (getD_replicate_false _ _)
      simp only [this, Bool.not_false]
  have hds : ∀ k d, lk (dstTab ops 0) k = some d → dstAt ops.toArray k = some d := fun k d h => by have := (dstTab_ok ops 0 k d h).2; simpa [dstAt] using this
  refine wp_region_any hm ?_
  have key := head_run hds (P := P) (n := n) (w0 := w0) (mu := mu) (l := l) (hp := hp) (ivE := ivE) (all := ops.toArray) (k := k) (g := ops.toArray.size - k) (Q' := QQ n w0 mu Q) hks hd hf hback
    (fun i o hi ho => by
      have ho' : (ops.take k)[i]? = some o := by simpa [hi] using ho
      obtain ⟨iv', v, h1, h2, h3⟩ := hops i o ho'
      exact ⟨iv', v, fun j u hu => by simpa using h1 j u hu, by simpa using h2, h3⟩)
    (fun listed inv hall a w hmid => by
      have hl : listed = (Array.replicate k true) ++ (Array.replicate (ops.toArray.size - k) false) := by
        apply Array.ext
        · simp [inv.size]; simp at hlt; omega
        · intro i h1 h2
          by_cases hi : i < k
          · have := hall i hi
            simp [h1] at this
            rw [Array.getElem_append_left (by simpa using hi)]
            simpa using this
          · have h3 := inv.tail i (by omega) (by rw [inv.size] at h1; exact h1)
            simp [h1] at h3
            rw [Array.getElem_append_right (by simp; omega)]
            simpa using h3
      have hdl : (ops.drop k).length = ops.toArray.size - k := by simp
      rw [← hdl]
      refine wpAny_of_seq (ops.drop k) k listed a w (fun j => by simp) (by rw [hl, hdl]; exact hseq) ?_
      refine htail a w ⟨hmid.size, hmid.defers, fun t v ht => ?_⟩ hmid.good
      rcases look_append ht with ht | ⟨_, ht⟩
      · obtain ⟨j, h1, h2⟩ := headFm_mem (look_mem ht)
        obtain ⟨h3, h4⟩ := hE j v h1
        have hjk : j < k := by rw [htl] at h3; omega
        have h5 := hall j hjk
        exact hmid.done j hjk (by
          cases hcc : listed.getD j false with
          | true => rfl
          | false => rw [getD_in (by rw [inv.size]; omega) hcc] at h5; cases h5) t v (hds _ _ h2) h4
      · exact hmid.has t v ht)
    (fun listed inv i hi hun t ht => tail_waits hs hc hlt inv _ i rfl hi hun t ht)
    k _ a { w with drawn := w.drawn + 1 } hleft inv0 ⟨hk.size, hk.defers, hk.has, fun i _ hl => (by rw [getD_replicate_false] at hl; cases hl), hG.drawn _⟩
  have e : k + (ops.toArray.size - k) = ops.toArray.size := by omega
  rw [e] at key
  exact key
/-- The same where all is head. -/
def drawAllB (ops : Array Oper) (n : Nat) : Bool := dstB ops ops.size n && backB ops
theorem st_drawAll {id : Nat} {ops : List Oper} (hm : P.follows .mixedOrders = true) (hB : drawAllB ops.toArray n = true) (hf : freshB l (dstsOf ops.toArray ops.length) = true)
    (h : DH P n w0 mu ops.toArray (dstTab ops 0) [] l hp Q 0 ops []) : St P n w0 mu (.region id ops.toArray true) l hp Q := by
  intro a w hk hG
  simp only [drawAllB, Bool.and_eq_true] at hB
  obtain ⟨hd, hback⟩ := hB
  have hsz : ops.toArray.size = ops.length := by simp
  rw [hsz] at hd
  obtain ⟨ivE, _, hE, hops, htail⟩ := dh_vals _ _ _ (by simp) h
  have inv0 : HeadInv .any ops.toArray ops.length (Array.replicate ops.toArray.size false) :=
    ⟨by simp, fun j oj _ hl => (by rw [getD_replicate_false] at hl; cases hl), fun t h1 ht => (by simp at ht; omega)⟩
  have hleft : leftOf ops.length (Array.replicate ops.toArray.size false) = ops.length := by
    unfold leftOf
    rw [List.filter_eq_self.2]
    · simp
    · intro i hi
      have hi' : i < ops.length := by simpa using hi
      have : (Array.replicate ops.toArray.size false).getD i true = false := getD_in (by simpa using hi') (getD_replicate_false _ _)
      simp only [this, Bool.not_false]
  have hds : ∀ k d, lk (dstTab ops 0) k = some d → dstAt ops.toArray k = some d := fun k d h => by have := (dstTab_ok ops 0 k d h).2; simpa [dstAt] using this
  refine wp_region_any hm ?_
  have key := head_run hds (P := P) (n := n) (w0 := w0) (mu := mu) (l := l) (hp := hp) (ivE := ivE) (all := ops.toArray) (k := ops.length) (g := 0) (Q' := QQ n w0 mu Q) (by simp) hd hf hback
    (fun i o hi ho => by
      have ho' : ops[i]? = some o := by simpa using ho
      obtain ⟨iv', v, h1, h2, h3⟩ := hops i o ho'
      exact ⟨iv', v, fun j u hu => by simpa using h1 j u hu, by simpa using h2, h3⟩)
    (fun listed inv hall a w hmid => by
      refine ⟨?_, ?_⟩
      · rw [List.eq_nil_iff_forall_not_mem]
        intro i hi
        obtain ⟨hun, o, ho, _⟩ := mem_ready.1 hi
        have hi' : i < ops.length := by
          have := (Array.getElem?_eq_some_iff.1 ho).1; simpa using this
        rw [hall i hi'] at hun; cases hun
      · have hfin : wpList P ops.toArray (QQ n w0 mu Q) [] a w := by
          refine htail a w ⟨hmid.size, hmid.defers, fun t v ht => ?_⟩ hmid.good
          rcases look_append ht with ht | ⟨_, ht⟩
          · obtain ⟨j, h1, h2⟩ := headFm_mem (look_mem ht)
            obtain ⟨h3, h4⟩ := hE j v h1
            have hjk : j < ops.length := by omega
            have h5 := hall j hjk
            exact hmid.done j hjk (by
              cases hcc : listed.getD j false with
              | true => rfl
              | false => rw [getD_in (by rw [inv.size]; simpa using hjk) hcc] at h5; cases h5) t v (hds _ _ h2) h4
          · exact hmid.has t v ht
        exact hfin)
    (fun listed inv i hi hun t ht hr => by
      obtain ⟨_, o, ho, _⟩ := mem_ready.1 hr
      have := (Array.getElem?_eq_some_iff.1 ho).1
      simp at this; omega)
    ops.length _ a { w with drawn := w.drawn + 1 } hleft inv0 ⟨hk.size, hk.defers, hk.has, fun i _ hl => (by rw [getD_replicate_false] at hl; cases hl), hG.drawn _⟩
  simpa using key
theorem dh_nil {all : Array Oper} {ds : List (Nat × Nat)} {tail : List Oper} {i : Nat} {iv : Fm} (h : Ops P n w0 mu all tail (headFm ds iv ++ l) hp Q) : DH P n w0 mu all ds tail l hp Q i [] iv := h
theorem dh1 {all : Array Oper} {ds : List (Nat × Nat)} {tail rest : List Oper} {i d : Nat} {iv : Fm} {op : Op} {ty : TypeId} {pos : String} {af : Array Edge} {v : Value} (hy : Hy P n w0 mu (depFm ds iv af.toList ++ l) hp ⟨some d, op, ty, pos, af, none⟩ v)
    (h : DH P n w0 mu all ds tail l hp Q (i + 1) rest ((i, v) :: iv)) : DH P n w0 mu all ds tail l hp Q i (⟨some d, op, ty, pos, af, none⟩ :: rest) iv := ⟨v, hy, h⟩
theorem dh1g {all : Array Oper} {ds : List (Nat × Nat)} {tail rest : List Oper} {i d : Nat} {iv : Fm} {op : Op} {ty : TypeId} {pos : String} {af : Array Edge} {v : Value} {j : Nat} {want : Bool} {dj : Nat} {b : Bool} (hj : (all[j]?).bind (·.dst) = some dj)
    (hb : look (depFm ds iv af.toList ++ l) dj = some (.bool b)) (hdj : Nat.blt dj n = true) (hy : wnt b want = true → Hy P n w0 mu (depFm ds iv af.toList ++ l) hp ⟨some d, op, ty, pos, af, some (j, want)⟩ v)
    (h : DH P n w0 mu all ds tail l hp Q (i + 1) rest ((i, gv (wnt b want) v) :: iv)) : DH P n w0 mu all ds tail l hp Q i (⟨some d, op, ty, pos, af, some (j, want)⟩ :: rest) iv := ⟨_, ⟨dj, true, b, v, hj, hb, hdj, fun _ => hy, rfl⟩, h⟩
theorem dh1gg {all : Array Oper} {ds : List (Nat × Nat)} {tail rest : List Oper} {i d : Nat} {iv : Fm} {op : Op} {ty : TypeId} {pos : String} {af : Array Edge} {v : Value} {j : Nat} {want : Bool} {dj : Nat} {c0 b : Bool} (hj : (all[j]?).bind (·.dst) = some dj)
    (hb : look (depFm ds iv af.toList ++ l) dj = some (gv c0 (.bool b))) (hdj : Nat.blt dj n = true) (hy : c0 = true → wnt b want = true → Hy P n w0 mu (depFm ds iv af.toList ++ l) hp ⟨some d, op, ty, pos, af, some (j, want)⟩ v)
    (h : DH P n w0 mu all ds tail l hp Q (i + 1) rest ((i, gv (c0 && wnt b want) v) :: iv)) : DH P n w0 mu all ds tail l hp Q i (⟨some d, op, ty, pos, af, some (j, want)⟩ :: rest) iv := ⟨_, ⟨dj, c0, b, v, hj, hb, hdj, hy, rfl⟩, h⟩
theorem dh_id {all : Array Oper} {ds : List (Nat × Nat)} {tail rest : List Oper} {i : Nat} {iv : Fm} {o : Oper} (h : DH P n w0 mu all ds tail l hp Q i (o :: rest) iv) : DH P n w0 mu all ds tail l hp Q i (o :: rest) iv := h
end
end Go.Proofs.YtdfkcjjbflcafaaGreat
