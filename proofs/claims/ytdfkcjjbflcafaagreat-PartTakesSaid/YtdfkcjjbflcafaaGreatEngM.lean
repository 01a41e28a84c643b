/- The engine: a region that draws its order and makes memory: what is known ahead (S), what makes memory (E), what hangs on that (D), a forced row behind them. No program in sight. -/
import Derived.Test.YtdfkcjjbflcafaaGreatEngL
namespace Go.Proofs.YtdfkcjjbflcafaaGreat
open Go.RowKit
set_option linter.unusedVariables false
set_option linter.unusedSimpArgs false
abbrev Ch := Nat → Value × Hp
abbrev RT := Value → Hp → Prop
inductive Kd where
  | s (v : Value)
  | e (R : RT)
  | d
/-- An operation that makes memory: of what it yields R is known. -/
def EoR (P : Program) (n : Nat) (w0 : World) (mu : List Nat) (lf : Fm) (hp : Hp) (o : Oper) (R : RT) : Prop :=
  o.guard = none ∧ ∀ a w hx, Knows n lf a → Good w0 mu (hx ++ hp) w → ∀ (K : Act → World → Prop) (Q : Exit → Act → World → Prop), (∀ v hn w', R v hn → Good w0 mu (hn ++ (hx ++ hp)) w' → K (a.put o.dst v) w') → o.wp P a w K Q
def HyR (P : Program) (n : Nat) (w0 : World) (mu : List Nat) (lf : Fm) (hp : Hp) (o : Oper) (v : Value) : Prop :=
  o.guard = none ∧ ∀ a w, Knows n lf a → Good w0 mu hp w → (execOp a.eval o).run P w = .ok (.value v) w
def isE : Kd → Bool
  | .e _ => true
  | _ => false
def Valid (kd : Nat → Kd) (k : Nat) (c : Ch) : Prop := ∀ i, i < k → ∀ R, kd i = .e R → R (c i).1 (c i).2
def blkAt (kd : Nat → Kd) (c : Ch) (listed : Array Bool) (i : Nat) : Hp := bif isE (kd i) && listed.getD i false then (c i).2 else []
def blks (kd : Nat → Kd) (c : Ch) (listed : Array Bool) : Nat → Hp
  | 0 => []
  | i + 1 => blkAt kd c listed i ++ blks kd c listed i
theorem blkAt_ne {kd : Nat → Kd} {c : Ch} {listed : Array Bool} {x : Value × Hp} {i j : Nat} (h : i ≠ j) : blkAt kd (fun t => if t = i then x else c t) (listed.setIfInBounds i true) j = blkAt kd c listed j := by
  unfold blkAt
  rw [getD_set_ne false h]
  simp [Ne.symm h]
theorem blks_lt {kd : Nat → Kd} {c : Ch} {listed : Array Bool} {x : Value × Hp} {i : Nat} : ∀ k, k ≤ i → blks kd (fun t => if t = i then x else c t) (listed.setIfInBounds i true) k = blks kd c listed k := by
  intro k
  induction k with
  | zero => intro _; rfl
  | succ k ih => intro h; simp only [blks]; rw [ih (by omega), blkAt_ne (by omega)]
theorem blks_set {kd : Nat → Kd} {c : Ch} {listed : Array Bool} {v : Value} {hn : Hp} {i : Nat} (he : isE (kd i) = true) (hl : listed.getD i true = false) (hs : i < listed.size) : ∀ k, i < k → (hn ++ blks kd c listed k).Perm (blks kd (fun t => if t = i then (v, hn) else c t) (listed.setIfInBounds i true) k) := by
  intro k
  induction k with
  | zero => intro h; omega
  | succ k ih =>
    intro h
    simp only [blks]
    by_cases hik : i = k
    · subst hik
      rw [blks_lt i (Nat.le_refl _)]
      have e1 : blkAt kd c listed i = [] := by
        unfold blkAt
        rw [show listed.getD i false = false from getD_both hl]; simp
      have e2 : blkAt kd (fun t => if t = i then (v, hn) else c t) (listed.setIfInBounds i true) i = hn := by
        unfold blkAt
        simp [he, hs]
      rw [e1, e2]
      exact .refl _
    · rw [blkAt_ne (by omega)]
      refine List.Perm.trans ?_ ((ih (by omega)).append_left _)
      rw [← List.append_assoc, ← List.append_assoc]
      exact List.Perm.append_right _ List.perm_append_comm
theorem blks_same {kd : Nat → Kd} {c : Ch} {listed : Array Bool} {i : Nat} (he : isE (kd i) = false) : ∀ k, blks kd c (listed.setIfInBounds i true) k = blks kd c listed k := by
  intro k
  induction k with
  | zero => rfl
  | succ k ih =>
    simp only [blks]
    rw [ih]
    congr 1
    by_cases h : i = k
    · subst h; unfold blkAt; rw [he]; rfl
    · unfold blkAt; rw [getD_set_ne false h]
structure MidE (n : Nat) (w0 : World) (mu : List Nat) (all : Array Oper) (l : Fm) (hp : Hp) (kd : Nat → Kd) (val : Ch → Nat → Value) (k : Nat) (c : Ch) (listed : Array Bool) (a : Act) (w : World) : Prop where
  size : a.tmps.size = n
  defers : a.defers = []
  has : ∀ t v, look l t = some v → a.tmps.getD t undef = v
  valid : Valid kd k c
  good : Good w0 mu (blks kd c listed k ++ hp) w
  done : ∀ i, i < k → listed.getD i false = true → ∀ c', Valid kd k c' → (∀ j, j < k → listed.getD j false = true → isE (kd j) = true → c' j = c j) → ∀ d, dstAt all i = some d → a.tmps.getD d undef = val c' i
section
variable {P : Program} {n : Nat} {w0 : World} {mu : List Nat} {l : Fm} {hp : Hp} {Q : Exit → Fm → Hp → Prop} {all : Array Oper} {kd : Nat → Kd} {val : Ch → Nat → Value} {k : Nat}
theorem dst_there (hd : dstB all k n = true) {j : Nat} (hj : j < k) : ∃ d, dstAt all j = some d ∧ d < n := by
  simp only [dstB, Bool.and_eq_true, decide_eq_true_eq] at hd
  have := List.all_eq_true.1 hd.1 (dstAt all j) (List.mem_map.2 ⟨j, List.mem_range.2 hj, rfl⟩)
  cases hdd : dstAt all j with
  | none => rw [hdd] at this; cases this
  | some d => rw [hdd] at this; exact ⟨d, rfl, by simpa using this⟩
theorem dst_inj (hd : dstB all k n = true) {i j d : Nat} (hi : i < k) (hj : j < k) (h1 : dstAt all i = some d) (h2 : dstAt all j = some d) : i = j := by
  simp only [dstB, Bool.and_eq_true, decide_eq_true_eq] at hd
  have hnd := hd.2
  have g1 : (dstsOf all k)[j]? = some (some d) := by simp [dstsOf, hj, h2]
  have g2 : (dstsOf all k)[i]? = some (some d) := by simp [dstsOf, hi, h1]
  have e1 := (List.getElem?_eq_some_iff.1 g1).2
  have e2 := (List.getElem?_eq_some_iff.1 g2).2
  exact ((List.getElem_inj hnd (h₀ := (List.getElem?_eq_some_iff.1 g2).1) (h₁ := (List.getElem?_eq_some_iff.1 g1).1)).1 (by rw [e1, e2]))
theorem fresh_none {d : Nat} : ∀ (L : List (Option Nat)), freshB l L = true → some d ∈ L → look l d = none := by
  intro L
  induction L with
  | nil => intro _ h; cases h
  | cons x r ih =>
    intro hL hmem
    cases x with
    | none =>
      rcases List.mem_cons.1 hmem with h | h
      · cases h
      · exact ih hL h
    | some y =>
      simp only [freshB, Bool.and_eq_true, Option.isNone_iff_eq_none] at hL
      rcases List.mem_cons.1 hmem with h | h
      · cases h; exact hL.1
      · exact ih hL.2 h
/-- One operation of the head is done. -/
theorem mide_step {c c2 : Ch} {listed : Array Bool} {a : Act} {w w' : World} {i : Nat} {o : Oper} {v : Value} (hm : MidE n w0 mu all l hp kd val k c listed a w) (ho : all[i]? = some o) (hi : i < k) (hun : listed.getD i true = false) (hs : i < listed.size)
    (hd : dstB all k n = true) (hf : freshB l (dstsOf all k) = true) (hv2 : Valid kd k c2) (hsame : ∀ j, j ≠ i → c2 j = c j) (hG : Good w0 mu (blks kd c2 (listed.setIfInBounds i true) k ++ hp) w')
    (hval : ∀ c', Valid kd k c' → (∀ j, j < k → (listed.setIfInBounds i true).getD j false = true → isE (kd j) = true → c' j = c2 j) → val c' i = v) : MidE n w0 mu all l hp kd val k c2 (listed.setIfInBounds i true) (a.put o.dst v) w' := by
  obtain ⟨d, hdo, hdn⟩ := dst_there hd hi
  have hod : o.dst = some d := by simpa [dstAt, ho] using hdo
  have hnew : look l d = none := fresh_none _ hf (List.mem_map.2 ⟨i, List.mem_range.2 hi, hdo⟩)
  have hput : ∀ t, t ≠ d → (a.put o.dst v).tmps.getD t undef = a.tmps.getD t undef := by
    intro t ht
    rw [hod]
    simp [Act.put, Array.getElem?_setIfInBounds_ne (Ne.symm ht)]
  refine ⟨by rw [hod]; simpa [Act.put] using hm.size, by rw [hod]; exact hm.defers, ?_, hv2, hG, ?_⟩
  · intro t u hu
    rw [hput t (fun e => by subst e; rw [hnew] at hu; cases hu)]
    exact hm.has t u hu
  · intro j hj hl c' hc' hag d' hd'
    by_cases hji : j = i
    · subst hji
      rw [hdo] at hd'
      cases hd'
      rw [hval c' hc' hag, hod]
      simp [Act.put, hm.size, hdn]
    · have hne : d' ≠ d := fun e => by subst e; exact hji (dst_inj hd hj hi hd' hdo)
      rw [hput d' hne]
      refine hm.done j hj (by rwa [getD_set_ne false (Ne.symm hji)] at hl) c' hc' (fun t ht hlt het => ?_) d' hd'
      have hti : t ≠ i := by rintro rfl; rw [getD_both hun] at hlt; cases hlt
      rw [hag t ht (getD_set_true hlt) het, hsame t hti]
theorem depFm_lookE {ds : List (Nat × Nat)} (hds : ∀ k d, lk ds k = some d → dstAt all k = some d) {iv' : Fm} {c c' : Ch} {i : Nat} {listed : Array Bool} {a : Act} {w : World} {o : Oper} (hm : MidE n w0 mu all l hp kd val k c listed a w) (hc' : Valid kd k c') (hag : ∀ j, j < k → listed.getD j false = true → isE (kd j) = true → c' j = c j)
    (hiv : ∀ j u, look iv' j = some u → j < k ∧ val c' j = u) (hl : ∀ e ∈ o.after, Region.binds .any e = true → listed.getD e.on false = true) : Knows n (depFm ds iv' o.after.toList ++ l) a := by
  refine ⟨hm.size, hm.defers, fun t v h => ?_⟩
  rcases look_append h with h | ⟨_, h⟩
  · obtain ⟨e, he, h1, h2, h3⟩ := depFm_mem (look_mem h)
    obtain ⟨h4, h5⟩ := hiv _ _ h3
    rw [hm.done e.on h4 (hl e (by simpa using he) h1) c' hc' hag t (hds _ _ h2)]
    exact h5
  · exact hm.has t v h
theorem headE_run {ds : List (Nat × Nat)} (hds : ∀ k d, lk ds k = some d → dstAt all k = some d) {g : Nat} {Q' : Exit → Act → World → Prop} (hk : k ≤ all.size) (hd : dstB all k n = true) (hf : freshB l (dstsOf all k) = true) (hback : backB all = true)
    (hS : ∀ i o v, i < k → all[i]? = some o → kd i = .s v → (∀ c, val c i = v) ∧ ∃ iv', (∀ j u, look iv' j = some u → j < k ∧ ∀ c, val c j = u) ∧ ∀ hx, HyG P n w0 mu all (depFm ds iv' o.after.toList ++ l) (hx ++ hp) o v)
    (hE : ∀ i o R, i < k → all[i]? = some o → kd i = .e R → (∀ c, val c i = (c i).1) ∧ ∃ iv', (∀ j u, look iv' j = some u → j < k ∧ ∀ c, val c j = u) ∧ EoR P n w0 mu (depFm ds iv' o.after.toList ++ l) hp o R)
    (hD : ∀ c, Valid kd k c → ∀ i o, i < k → all[i]? = some o → kd i = .d → ∃ iv', (∀ j u, look iv' j = some u → j < k ∧ val c j = u) ∧ HyR P n w0 mu (depFm ds iv' o.after.toList ++ l) hp o (val c i))
    (htail : ∀ c listed, HeadInv .any all k listed → (∀ i, i < k → listed.getD i true = true) → ∀ a w, MidE n w0 mu all l hp kd val k c listed a w → wpAny P .any all Q' g listed a w)
    (hwait : ∀ listed, HeadInv .any all k listed → ∀ i, i < k → listed.getD i true = false → ∀ t, k ≤ t → t ∉ Region.ready .any all listed) :
    ∀ f c listed a w, leftOf k listed = f → HeadInv .any all k listed → MidE n w0 mu all l hp kd val k c listed a w → wpAny P .any all Q' (f + g) listed a w := by
  intro f
  induction f with
  | zero =>
    intro c listed a w hlf inv hm
    rw [Nat.zero_add]
    refine htail c listed inv (fun i hi => ?_) a w hm
    cases hc : listed.getD i true with
    | true => rfl
    | false =>
      exfalso
      have : i ∈ (List.range k).filter fun i => !listed.getD i true := List.mem_filter.2 ⟨List.mem_range.2 hi, by simp only [hc, Bool.not_false]⟩
      have h2 := List.length_pos_of_mem this
      unfold leftOf at hlf
      omega
  | succ f ih =>
    intro c listed a w hlf inv hm
    rw [show f + 1 + g = (f + g) + 1 by omega]
    have hex : ∃ i, i < k ∧ listed.getD i true = false := by
      have h2 : 0 < leftOf k listed := by omega
      obtain ⟨i, hi⟩ := List.exists_mem_of_length_pos h2
      rw [List.mem_filter] at hi
      exact ⟨i, List.mem_range.1 hi.1, by simpa using hi.2⟩
    obtain ⟨i0, hi0k, hi0⟩ := hex
    refine ⟨fun hnil => ?_, fun i hi => ?_⟩
    · exfalso
      obtain ⟨i, ⟨hik, hil⟩, hmin⟩ := exists_least (p := fun i => i < k ∧ listed.getD i true = false) ⟨i0, hi0k, hi0⟩
      have hr : i ∈ Region.ready .any all listed := by
        rw [mem_ready]
        have hs : i < all.size := by omega
        refine ⟨hil, all[i], by simp [hs], fun e he hb => ?_⟩
        have hb2 := List.all_eq_true.1 hback i (List.mem_range.2 hs)
        simp only [Array.getElem?_eq_getElem hs] at hb2
        have hb3 := (Array.all_eq_true_iff_forall_mem.1 hb2) e he
        simp only [hb, Bool.not_true, Bool.false_or, Nat.blt_eq] at hb3
        cases hc : listed.getD e.on false with
        | true => rfl
        | false =>
          have h5 := hmin e.on ⟨by omega, getD_in (by rw [inv.size]; omega) hc⟩
          omega
      rw [hnil] at hr; cases hr
    · have hik : i < k := by
        rcases Nat.lt_or_ge i k with h | h
        · exact h
        · exact absurd hi (hwait listed inv i0 hi0k hi0 i h)
      obtain ⟨hun, o, ho, hall⟩ := mem_ready.1 hi
      have hsz : i < listed.size := by rw [inv.size]; omega
      have hself : ∀ j, j < k → listed.getD j false = true → isE (kd j) = true → c j = c j := fun _ _ _ _ => rfl
      have hgo : ∀ c2 a' w', MidE n w0 mu all l hp kd val k c2 (listed.setIfInBounds i true) a' w' → wpAny P .any all Q' (f + g) (listed.setIfInBounds i true) a' w' := fun c2 a' w' h =>
        ih c2 _ _ _ (by have := left_set hik (by rw [inv.size]; omega) hun; omega) (inv.set hi hik) h
      have hweak : Good w0 mu hp w := hm.good.sub (List.sublist_append_right _ _)
      unfold wpOp
      simp only [ho]
      cases hkd : kd i with
      | s v =>
        obtain ⟨hvc, iv', hiv, hy⟩ := hS i o v hik ho hkd
        have hkn := depFm_lookE (i := i) hds hm hm.valid hself (fun j u hu => ⟨(hiv j u hu).1, (hiv j u hu).2 c⟩) hall
        have hE0 : isE (kd i) = false := by rw [hkd]; rfl
        have hnext : ∀ w', Good w0 mu (blks kd c listed k ++ hp) w' → wpAny P .any all Q' (f + g) (listed.setIfInBounds i true) (a.put o.dst v) w' := fun w' hG' =>
          hgo c _ _ (mide_step hm ho hik hun hsz hd hf hm.valid (fun _ _ => rfl) (by rw [blks_same hE0]; exact hG') (fun c' _ _ => hvc c'))
        have h3 := hy (blks kd c listed k)
        unfold HyG at h3
        cases hg : o.guard with
        | none =>
          rw [hg] at h3
          rw [if_pos (by simp [Region.wanted, hg])]
          exact .inl (h3 a w hkn hm.good _ _ hnext)
        | some jw =>
          obtain ⟨j, want⟩ := jw
          rw [hg] at h3
          obtain ⟨dj, c0, b, u, hj, hb, hdj, hy, hvv⟩ := h3
          have hw := wanted_of hkn hg hj hb hdj
          cases hc : (c0 && wnt b want) with
          | true =>
            rw [hc] at hw hvv
            rw [if_pos hw]
            rw [Bool.and_eq_true] at hc
            rw [show v = u from hvv] at hnext
            exact .inl (hy hc.1 hc.2 a w hkn hm.good _ _ hnext)
          | false =>
            rw [hc] at hw hvv
            rw [if_neg (by rw [hw]; decide)]
            rw [show v = undef from hvv] at hnext
            exact hnext w hm.good
      | e R =>
        obtain ⟨hvc, iv', hiv, hg, hy⟩ := hE i o R hik ho hkd
        have hkn := depFm_lookE (i := i) hds hm hm.valid hself (fun j u hu => ⟨(hiv j u hu).1, (hiv j u hu).2 c⟩) hall
        rw [if_pos (by simp [Region.wanted, hg])]
        refine .inl (hy a w _ hkn hm.good _ _ fun v hn w' hR hG' => ?_)
        refine hgo (fun t => if t = i then (v, hn) else c t) _ _ (mide_step hm ho hik hun hsz hd hf ?_ (fun j hj => by simp [hj]) ?_ ?_)
        · intro j hj R' hR'
          by_cases hji : j = i
          · subst hji
            rw [hkd] at hR'
            cases hR'
            simpa using hR
          · simp only [hji, if_false]
            exact hm.valid j hj R' hR'
        · refine hG'.perm ?_
          rw [← List.append_assoc]
          exact (blks_set (by rw [hkd]; rfl) hun hsz k hik).symm.append_right _
        · intro c' hc' hag
          rw [hvc c', hag i hik (by simp [hsz]) (by rw [hkd]; rfl)]
          simp
      | d =>
        obtain ⟨iv', hiv, hg, hy⟩ := hD c hm.valid i o hik ho hkd
        have hE0 : isE (kd i) = false := by rw [hkd]; rfl
        have hkn := depFm_lookE (i := i) hds hm hm.valid hself hiv hall
        have hrun := hy a w hkn hweak
        rw [if_pos (by simp [Region.wanted, hg])]
        refine .inl ?_
        unfold Oper.wp
        rw [hrun]
        refine hgo c _ _ (mide_step hm ho hik hun hsz hd hf hm.valid (fun _ _ => rfl) (by rw [blks_same hE0]; exact hm.good) (fun c' hc' hag => ?_))
        obtain ⟨iv2, hiv2, hg2, hy2⟩ := hD c' hc' i o hik ho hkd
        have hag' : ∀ j, j < k → listed.getD j false = true → isE (kd j) = true → c' j = c j := fun j hj hl he => hag j hj (getD_set_true hl) he
        have hrun2 := hy2 a w (depFm_lookE (i := i) hds hm hc' hag' hiv2 hall) hweak
        rw [hrun] at hrun2
        simp only [Result.ok.injEq, Next.value.injEq, and_true] at hrun2
        exact hrun2.symm
/-! ### The same as a row of rules -/
def chs (c : Ch) : List (Nat × RT) → Fm
  | [] => []
  | p :: r => (p.1, (c p.1).1) :: chs c r
def AllR (c : Ch) : List (Nat × RT) → Prop
  | [] => True
  | p :: r => p.2 (c p.1).1 (c p.1).2 ∧ AllR c r
def blE (E : List Nat) (c : Ch) : Nat → Hp
  | 0 => []
  | i + 1 => (bif mem E i then (c i).2 else []) ++ blE E c i
def DE1 (P : Program) (n : Nat) (w0 : World) (mu : List Nat) (all : Array Oper) (ds : List (Nat × Nat)) (l : Fm) (hp : Hp) (X : Fm → Prop) : List Nat → Fm → Prop
  | [], iv => X iv
  | i :: S, iv => ∃ o v, all[i]? = some o ∧ (∀ hx, HyG P n w0 mu all (depFm ds iv o.after.toList ++ l) (hx ++ hp) o v) ∧ DE1 P n w0 mu all ds l hp X S ((i, v) :: iv)
def DE2 (P : Program) (n : Nat) (w0 : World) (mu : List Nat) (all : Array Oper) (ds : List (Nat × Nat)) (l : Fm) (hp : Hp) (iv : Fm) (X : List (Nat × RT) → Prop) : List Nat → List (Nat × RT) → Prop
  | [], Rs => X Rs
  | i :: E, Rs => ∃ o R, all[i]? = some o ∧ EoR P n w0 mu (depFm ds iv o.after.toList ++ l) hp o R ∧ (∃ v hn, R v hn) ∧ DE2 P n w0 mu all ds l hp iv X E ((i, R) :: Rs)
def DE3 (P : Program) (n : Nat) (w0 : World) (mu : List Nat) (all : Array Oper) (ds : List (Nat × Nat)) (l : Fm) (hp : Hp) (Y : Fm → Prop) : List Nat → Fm → Prop
  | [], iv => Y iv
  | i :: D, iv => ∃ o v, all[i]? = some o ∧ HyR P n w0 mu (depFm ds iv o.after.toList ++ l) hp o v ∧ DE3 P n w0 mu all ds l hp Y D ((i, v) :: iv)
def hasK {α : Type} (l : List (Nat × α)) (i : Nat) : Prop := ∃ v, lk l i = some v
theorem look_lk (l : Fm) (i : Nat) : look l i = lk l i := by
  induction l with
  | nil => rfl
  | cons p r ih => obtain ⟨k, v⟩ := p; simp only [look, lk, ih]
theorem lk_cons {α : Type} {l : List (Nat × α)} {k i : Nat} {v : α} : lk ((k, v) :: l) i = if k = i then some v else lk l i := by
  simp only [lk]
  by_cases h : k = i
  · rw [beq_iff.2 h, if_pos h]; rfl
  · have : Nat.beq k i = false := by
      cases hb : Nat.beq k i
      · rfl
      · exact absurd (beq_iff.1 hb) h
    rw [this, if_neg h]; rfl
def Mono (iv iv2 : Fm) : Prop := ∀ j u, lk iv j = some u → lk iv2 j = some u
theorem mono_cons {iv : Fm} {i : Nat} {v : Value} (h : lk iv i = none) : Mono iv ((i, v) :: iv) := by
  intro j u hj
  rw [lk_cons]
  by_cases hij : i = j
  · subst hij; rw [h] at hj; cases hj
  · rw [if_neg hij]; exact hj
def Uq (iv : Fm) : Prop := ∀ i v, (i, v) ∈ iv → lk iv i = some v
theorem uq_cons {iv : Fm} {i : Nat} {v : Value} (h : lk iv i = none) (hu : Uq iv) : Uq ((i, v) :: iv) := by
  intro j u hj
  rw [lk_cons]
  rcases List.mem_cons.1 hj with hj | hj
  · cases hj; rw [if_pos rfl]
  · by_cases hij : i = j
    · subst hij; have := hu _ _ hj; rw [h] at this; cases this
    · rw [if_neg hij]; exact hu _ _ hj
section
variable {ds : List (Nat × Nat)}
theorem de1_get {X : Fm → Prop} : ∀ (S : List Nat) (iv : Fm), S.Nodup → (∀ i ∈ S, lk iv i = none) → Uq iv → DE1 P n w0 mu all ds l hp X S iv →
    (∀ i v, lk iv i = some v → ∃ o iv', all[i]? = some o ∧ Mono iv' iv ∧ ∀ hx, HyG P n w0 mu all (depFm ds iv' o.after.toList ++ l) (hx ++ hp) o v) →
    ∃ ivS, X ivS ∧ Uq ivS ∧ (∀ i, (∃ v, lk ivS i = some v) ↔ i ∈ S ∨ ∃ v, lk iv i = some v) ∧ ∀ i v, lk ivS i = some v → ∃ o iv', all[i]? = some o ∧ Mono iv' ivS ∧ ∀ hx, HyG P n w0 mu all (depFm ds iv' o.after.toList ++ l) (hx ++ hp) o v := by
  intro S
  induction S with
  | nil => intro iv _ _ hu h hs; exact ⟨iv, h, hu, fun i => by simp, hs⟩
  | cons i S ih =>
    rintro iv hnd hno hu ⟨o, v, ho, hy, h⟩ hs
    rw [List.nodup_cons] at hnd
    have hi := hno i (List.mem_cons_self ..)
    obtain ⟨ivS, hX, hu2, hk, hs2⟩ := ih ((i, v) :: iv) hnd.2 (fun j hj => by rw [lk_cons, if_neg (by rintro rfl; exact hnd.1 hj)]; exact hno j (List.mem_cons_of_mem _ hj)) (uq_cons hi hu) h (fun j u hj => by
      rw [lk_cons] at hj
      by_cases hij : i = j
      · subst hij
        rw [if_pos rfl] at hj
        cases hj
        exact ⟨o, iv, ho, mono_cons hi, hy⟩
      · rw [if_neg hij] at hj
        obtain ⟨o', iv', h1, h2, h3⟩ := hs j u hj
        exact ⟨o', iv', h1, fun a b hab => mono_cons hi a b (h2 a b hab), h3⟩)
    refine ⟨ivS, hX, hu2, fun j => ?_, hs2⟩
    rw [hk, List.mem_cons, lk_cons]
    by_cases hij : i = j
    · subst hij; simp
    · rw [if_neg hij]; simp [Ne.symm hij]
theorem de2_get {iv : Fm} {X : List (Nat × RT) → Prop} : ∀ (E : List Nat) (Rs : List (Nat × RT)), E.Nodup → (∀ i ∈ E, lk Rs i = none) → DE2 P n w0 mu all ds l hp iv X E Rs →
    (∀ i R, (i, R) ∈ Rs → lk Rs i = some R ∧ ∃ o, all[i]? = some o ∧ EoR P n w0 mu (depFm ds iv o.after.toList ++ l) hp o R ∧ ∃ v hn, R v hn) →
    ∃ RE, X RE ∧ (∀ i, (∃ R, lk RE i = some R) ↔ i ∈ E ∨ ∃ R, lk Rs i = some R) ∧ ∀ i R, (i, R) ∈ RE → lk RE i = some R ∧ ∃ o, all[i]? = some o ∧ EoR P n w0 mu (depFm ds iv o.after.toList ++ l) hp o R ∧ ∃ v hn, R v hn := by
  intro E
  induction E with
  | nil => intro Rs _ _ h hs; exact ⟨Rs, h, fun i => by simp, hs⟩
  | cons i E ih =>
    rintro Rs hnd hno ⟨o, R, ho, hy, hinh, h⟩ hs
    rw [List.nodup_cons] at hnd
    have hi := hno i (List.mem_cons_self ..)
    obtain ⟨RE, hX, hk, hs2⟩ := ih ((i, R) :: Rs) hnd.2 (fun j hj => by rw [lk_cons, if_neg (by rintro rfl; exact hnd.1 hj)]; exact hno j (List.mem_cons_of_mem _ hj)) h (fun j R' hj => by
      rcases List.mem_cons.1 hj with hj | hj
      · cases hj
        exact ⟨by rw [lk_cons, if_pos rfl], o, ho, hy, hinh⟩
      · obtain ⟨h1, h2⟩ := hs j R' hj
        refine ⟨?_, h2⟩
        rw [lk_cons]
        by_cases hij : i = j
        · subst hij; rw [hi] at h1; cases h1
        · rw [if_neg hij]; exact h1)
    refine ⟨RE, hX, fun j => ?_, hs2⟩
    rw [hk, List.mem_cons, lk_cons]
    by_cases hij : i = j
    · subst hij; simp
    · rw [if_neg hij]; simp [Ne.symm hij]
theorem de3_get {Y : Fm → Prop} {base : Fm} : ∀ (D : List Nat) (iv : Fm), D.Nodup → (∀ i ∈ D, lk iv i = none) → Uq iv → Mono base iv → DE3 P n w0 mu all ds l hp Y D iv →
    (∀ i v, lk iv i = some v → lk base i = some v ∨ ∃ o iv', all[i]? = some o ∧ Mono iv' iv ∧ HyR P n w0 mu (depFm ds iv' o.after.toList ++ l) hp o v) →
    ∃ ivD, Y ivD ∧ Uq ivD ∧ Mono base ivD ∧ (∀ i, (∃ v, lk ivD i = some v) ↔ i ∈ D ∨ ∃ v, lk iv i = some v) ∧ ∀ i v, lk ivD i = some v → lk base i = some v ∨ ∃ o iv', all[i]? = some o ∧ Mono iv' ivD ∧ HyR P n w0 mu (depFm ds iv' o.after.toList ++ l) hp o v := by
  intro D
  induction D with
  | nil => intro iv _ _ hu hb h hs; exact ⟨iv, h, hu, hb, fun i => by simp, hs⟩
  | cons i D ih =>
    rintro iv hnd hno hu hb ⟨o, v, ho, hy, h⟩ hs
    rw [List.nodup_cons] at hnd
    have hi := hno i (List.mem_cons_self ..)
    obtain ⟨ivD, hX, hu2, hb2, hk, hs2⟩ := ih ((i, v) :: iv) hnd.2 (fun j hj => by rw [lk_cons, if_neg (by rintro rfl; exact hnd.1 hj)]; exact hno j (List.mem_cons_of_mem _ hj)) (uq_cons hi hu) (fun a b hab => mono_cons hi a b (hb a b hab)) h (fun j u hj => by
      rw [lk_cons] at hj
      by_cases hij : i = j
      · subst hij
        rw [if_pos rfl] at hj
        cases hj
        exact .inr ⟨o, iv, ho, mono_cons hi, hy⟩
      · rw [if_neg hij] at hj
        rcases hs j u hj with h0 | ⟨o', iv', h1, h2, h3⟩
        · exact .inl h0
        · exact .inr ⟨o', iv', h1, fun a b hab => mono_cons hi a b (h2 a b hab), h3⟩)
    refine ⟨ivD, hX, hu2, hb2, fun j => ?_, hs2⟩
    rw [hk, List.mem_cons, lk_cons]
    by_cases hij : i = j
    · subst hij; simp
    · rw [if_neg hij]; simp [Ne.symm hij]
theorem chs_lk {c : Ch} {base : Fm} : ∀ (Rs : List (Nat × RT)) (i : Nat), lk (chs c Rs ++ base) i = match lk Rs i with | some _ => some (c i).1 | none => lk base i := by
  intro Rs
  induction Rs with
  | nil => intro i; rfl
  | cons p r ih =>
    obtain ⟨k, R⟩ := p
    intro i
    simp only [chs, List.cons_append]
    rw [lk_cons, lk_cons, ih]
    by_cases h : k = i
    · subst h; simp
    · simp [h]
theorem chs_mem {c : Ch} : ∀ (Rs : List (Nat × RT)) {i : Nat} {v : Value}, (i, v) ∈ chs c Rs → v = (c i).1 ∧ ∃ R, (i, R) ∈ Rs := by
  intro Rs
  induction Rs with
  | nil => intro i v h; cases h
  | cons p r ih =>
    intro i v h
    rcases List.mem_cons.1 h with h | h
    · cases h; exact ⟨rfl, p.2, List.mem_cons_self ..⟩
    · obtain ⟨h1, R, h2⟩ := ih h; exact ⟨h1, R, List.mem_cons_of_mem _ h2⟩
theorem allR_of {c : Ch} : ∀ (Rs : List (Nat × RT)), (∀ p ∈ Rs, p.2 (c p.1).1 (c p.1).2) → AllR c Rs := by
  intro Rs
  induction Rs with
  | nil => intro _; trivial
  | cons p r ih => intro h; exact ⟨h p (List.mem_cons_self ..), ih fun q hq => h q (List.mem_cons_of_mem _ hq)⟩
theorem mem_of {T : List Nat} {t : Nat} (h : t ∈ T) : mem T t = true := by
  induction T with
  | nil => cases h
  | cons k r ih =>
    simp only [mem]
    rcases List.mem_cons.1 h with rfl | h2
    · rw [beq_iff.2 rfl]; rfl
    · rw [ih h2]; cases Nat.beq k t <;> rfl
/-- What is asked of the split: every place of the head once. -/
def splitB (k : Nat) (S E D : List Nat) : Bool := decide (E.reverse = (List.range k).reverse.filter (mem E)) && decide ((S ++ E ++ D).Nodup) && (S ++ E ++ D).all (fun i => Nat.blt i k) && (List.range k).all fun i => mem (S ++ E ++ D) i
/-- A region that draws its order, from its beginning. -/
def StAny (P : Program) (n : Nat) (w0 : World) (mu : List Nat) (ops : Array Oper) (l : Fm) (hp : Hp) (Q : Exit → Fm → Hp → Prop) : Prop :=
  ∀ a w, Knows n l a → Good w0 mu hp w → wpAny P .any ops (QQ n w0 mu Q) ops.size (Array.replicate ops.size false) a { w with drawn := w.drawn + 1 }
theorem st_any {id : Nat} {ops : Array Oper} (hm : P.follows .mixedOrders = true) (h : StAny P n w0 mu ops l hp Q) : St P n w0 mu (.region id ops true) l hp Q := fun a w hk hG => wp_region_any hm (h a w hk hG)
theorem st_drawE {ops : List Oper} (k : Nat) (S E D : List Nat) (hB : drawB ops.toArray k n = true) (hf : freshB l (dstsOf ops.toArray k) = true) (hsp : splitB k S E D = true) (hds : dstTab ops 0 = ds)
    (h : DE1 P n w0 mu ops.toArray ds l hp (fun ivS => DE2 P n w0 mu ops.toArray ds l hp ivS (fun Rs => ∀ c, AllR c Rs → DE3 P n w0 mu ops.toArray ds l hp (fun iv => Ops P n w0 mu ops.toArray (ops.drop k) (headFm ds iv ++ l) (blE E c k ++ hp) Q) D (chs c Rs ++ ivS)) E []) S []) : StAny P n w0 mu ops.toArray l hp Q := by
  intro a w hk hG
  simp only [splitB, Bool.and_eq_true, decide_eq_true_eq] at hsp
  obtain ⟨⟨⟨_, hnd⟩, hlt⟩, hcov⟩ := hsp
  have hlt' : ∀ i ∈ S ++ E ++ D, i < k := fun i hi => by have := List.all_eq_true.1 hlt i hi; simpa using this
  have hcov' : ∀ i, i < k → i ∈ S ∨ i ∈ E ∨ i ∈ D := fun i hi => by
    have := mem_mem (List.all_eq_true.1 hcov i (List.mem_range.2 hi))
    simpa [or_assoc] using this
  rw [List.append_assoc, List.nodup_append] at hnd
  obtain ⟨hndS, hndED, hSx⟩ := hnd
  rw [List.nodup_append] at hndED
  obtain ⟨hndE, hndD, hEx⟩ := hndED
  obtain ⟨ivS, h2, huS, hkS, hsS⟩ := de1_get S [] hndS (fun _ _ => rfl) (fun _ _ h => by cases h) h (fun i v hv => by cases hv)
  obtain ⟨Rs, h3, hkE, hsE⟩ := de2_get E [] hndE (fun _ _ => rfl) h2 (fun i R hR => by cases hR)
  simp only [lk, reduceCtorEq, exists_false, or_false] at hkS hkE
  have hES : ∀ i R, lk Rs i = some R → lk ivS i = none := fun i R hR => by
    cases hv : lk ivS i with
    | none => rfl
    | some v => exact absurd rfl (hSx i ((hkS i).1 ⟨v, hv⟩) i (List.mem_append_left _ ((hkE i).1 ⟨R, hR⟩)))
  let kd : Nat → Kd := fun i => match lk Rs i with | some R => .e R | none => match lk ivS i with | some v => .s v | none => .d
  have hkdE : ∀ i R, kd i = .e R ↔ lk Rs i = some R := fun i R => by
    show (match lk Rs i with | some R => Kd.e R | none => match lk ivS i with | some v => .s v | none => .d) = _ ↔ _
    cases lk Rs i with
    | some R' => simp
    | none => cases lk ivS i <;> simp
  have hkdS : ∀ i v, kd i = .s v → lk Rs i = none ∧ lk ivS i = some v := fun i v => by
    show (match lk Rs i with | some R => Kd.e R | none => match lk ivS i with | some v => .s v | none => .d) = _ → _
    cases lk Rs i with
    | some R' => simp
    | none => cases lk ivS i <;> simp
  have hkdD : ∀ i, kd i = .d → lk Rs i = none ∧ lk ivS i = none := fun i => by
    show (match lk Rs i with | some R => Kd.e R | none => match lk ivS i with | some v => .s v | none => .d) = _ → _
    cases lk Rs i with
    | some R' => simp
    | none => cases lk ivS i <;> simp
  have hlkm : ∀ i R, lk Rs i = some R → (i, R) ∈ Rs := fun i R h => lk_mem h
  have hvalid : ∀ c, Valid kd k c → AllR c Rs := fun c hc => allR_of Rs fun p hp => by
    obtain ⟨i, R⟩ := p
    have h1 := (hsE i R hp).1
    exact hc i (hlt' i (List.mem_append_left _ (List.mem_append_right _ ((hkE i).1 ⟨R, h1⟩)))) R ((hkdE i R).2 h1)
  have hex : ∀ c, Valid kd k c → ∃ ivD, Ops P n w0 mu ops.toArray (ops.drop k) (headFm ds ivD ++ l) (blE E c k ++ hp) Q ∧ Uq ivD ∧ Mono (chs c Rs ++ ivS) ivD ∧ (∀ i, (∃ v, lk ivD i = some v) ↔ i ∈ D ∨ ∃ v, lk (chs c Rs ++ ivS) i = some v) ∧ ∀ i v, lk ivD i = some v → lk (chs c Rs ++ ivS) i = some v ∨ ∃ o iv', ops.toArray[i]? = some o ∧ Mono iv' ivD ∧ HyR P n w0 mu (depFm ds iv' o.after.toList ++ l) hp o v := fun c hc =>
    de3_get D (chs c Rs ++ ivS) hndD (fun i hi => by
      rw [chs_lk]
      have e1 : lk Rs i = none := by
        cases hR : lk Rs i with
        | none => rfl
        | some R => exact absurd rfl (hEx i ((hkE i).1 ⟨R, hR⟩) i hi)
      rw [e1]
      cases hv : lk ivS i with
      | none => rfl
      | some v => exact absurd rfl (hSx i ((hkS i).1 ⟨v, hv⟩) i (List.mem_append_right _ hi))) (fun i v hv => by
      rw [chs_lk]
      rcases List.mem_append.1 hv with hv | hv
      · obtain ⟨rfl, R, hR⟩ := chs_mem Rs hv
        rw [(hsE i R hR).1]
      · have h1 := huS i v hv
        cases hR : lk Rs i with
        | none => exact h1
        | some R => rw [hES i R hR] at h1; cases h1) (fun _ _ h => h) (h3 c (hvalid c hc)) (fun i v hv => .inl hv)
  have hch : ∃ F : Ch → Fm, ∀ c, Valid kd k c → Ops P n w0 mu ops.toArray (ops.drop k) (headFm ds (F c) ++ l) (blE E c k ++ hp) Q ∧ Uq (F c) ∧ Mono (chs c Rs ++ ivS) (F c) ∧ (∀ i, (∃ v, lk (F c) i = some v) ↔ i ∈ D ∨ ∃ v, lk (chs c Rs ++ ivS) i = some v) ∧ ∀ i v, lk (F c) i = some v → lk (chs c Rs ++ ivS) i = some v ∨ ∃ o iv', ops.toArray[i]? = some o ∧ Mono iv' (F c) ∧ HyR P n w0 mu (depFm ds iv' o.after.toList ++ l) hp o v := by
    classical
    refine ⟨fun c => if hc : Valid kd k c then Classical.choose (hex c hc) else [], fun c hc => ?_⟩
    simp only [hc, dif_pos]
    exact Classical.choose_spec (hex c hc)
  obtain ⟨F, hF⟩ := hch
  let val : Ch → Nat → Value := fun c i => match kd i with | .s v => v | .e _ => (c i).1 | .d => (lk (F c) i).getD undef
  have hvalF : ∀ c, Valid kd k c → ∀ i v, lk (F c) i = some v → val c i = v := fun c hc i v hv => by
    obtain ⟨_, _, hmo, _, _⟩ := hF c hc
    show (match kd i with | .s v => v | .e _ => (c i).1 | .d => (lk (F c) i).getD undef) = v
    cases hkd : kd i with
    | s u =>
      obtain ⟨e1, e2⟩ := hkdS i u hkd
      have := hmo i u (by rw [chs_lk, e1]; exact e2)
      rw [hv] at this; cases this; rfl
    | e R =>
      have e1 := (hkdE i R).1 hkd
      have := hmo i (c i).1 (by rw [chs_lk, e1])
      rw [hv] at this; cases this; rfl
    | d => rw [hv]; rfl
  have hFall : ∀ c, Valid kd k c → ∀ i, i < k → ∃ v, lk (F c) i = some v := fun c hc i hi => by
    obtain ⟨_, _, _, hkk, _⟩ := hF c hc
    rw [hkk i]
    rcases hcov' i hi with h | h | h
    · obtain ⟨v, hv⟩ := (hkS i).2 h
      right
      rw [chs_lk]
      cases lk Rs i with
      | some R => exact ⟨_, rfl⟩
      | none => exact ⟨v, hv⟩
    · obtain ⟨R, hR⟩ := (hkE i).2 h
      right
      rw [chs_lk, hR]
      exact ⟨_, rfl⟩
    · exact .inl h
  have hvalS : ∀ i v, lk ivS i = some v → i < k ∧ ∀ c, val c i = v := fun i v hv => by
    refine ⟨hlt' i (List.mem_append_left _ (List.mem_append_left _ ((hkS i).1 ⟨v, hv⟩))), fun c => ?_⟩
    show (match kd i with | .s v => v | .e _ => (c i).1 | .d => (lk (F c) i).getD undef) = v
    have : kd i = .s v := by
      show (match lk Rs i with | some R => Kd.e R | none => match lk ivS i with | some v => .s v | none => .d) = _
      cases hR : lk Rs i with
      | some R => rw [hES i R hR] at hv; cases hv
      | none => rw [hv]
    rw [this]
  have hB' := hB
  simp only [drawB, Bool.and_eq_true, decide_eq_true_eq] at hB'
  obtain ⟨⟨⟨⟨⟨hltk, hd⟩, hback⟩, hs⟩, hc⟩, hseq⟩ := hB'
  have hks : k ≤ ops.toArray.size := by omega
  have hdsl : ∀ i d, lk ds i = some d → dstAt ops.toArray i = some d := fun i d h => by rw [← hds] at h; have := (dstTab_ok ops 0 i d h).2; simpa [dstAt] using this
  have hinh : ∃ c0 : Ch, Valid kd k c0 := by
    have h1 : ∀ i, ∃ x : Value × Hp, ∀ R, kd i = .e R → R x.1 x.2 := fun i => by
      cases hR : lk Rs i with
      | none => exact ⟨(undef, []), fun R h => by rw [(hkdE i R).1 h] at hR; cases hR⟩
      | some R =>
        obtain ⟨_, o, _, _, v, hn, hv⟩ := hsE i R (hlkm i R hR)
        exact ⟨(v, hn), fun R' h => by rw [(hkdE i R').1 h] at hR; cases hR; exact hv⟩
    exact ⟨fun i => Classical.choose (h1 i), fun i hi R hR => Classical.choose_spec (h1 i) R hR⟩
  obtain ⟨c0, hc0⟩ := hinh
  have inv0 : HeadInv .any ops.toArray k (Array.replicate ops.toArray.size false) :=
    ⟨by simp, fun j oj _ hl => (by rw [getD_replicate_false] at hl; cases hl), fun t _ ht => getD_in (by simpa using ht) (getD_replicate_false _ _)⟩
  have hleft : leftOf k (Array.replicate ops.toArray.size false) = k := by
    unfold leftOf
    rw [List.filter_eq_self.2]
    · simp
    · intro i hi
      have hi' : i < k := by simpa using hi
      have : (Array.replicate ops.toArray.size false).getD i true = false := getD_in (by simp at hltk ⊢; omega) (getD_replicate_false _ _)
      simp only [this, Bool.not_false]
  have hbl0 : ∀ m, blks kd c0 (Array.replicate ops.toArray.size false) m = [] := by
    intro m
    induction m with
    | zero => rfl
    | succ m ih => simp only [blks, ih, blkAt, getD_replicate_false, Bool.and_false, cond_false, List.append_nil]
  have hisE : ∀ i, i < k → isE (kd i) = mem E i := fun i hi => by
    cases hkd : kd i with
    | e R => rw [mem_of ((hkE i).1 ⟨R, (hkdE i R).1 hkd⟩)]; rfl
    | s v =>
      cases hmm : mem E i with
      | false => rfl
      | true => obtain ⟨R, hR⟩ := (hkE i).2 (mem_mem hmm); rw [(hkdE i R).2 hR] at hkd; cases hkd
    | d =>
      cases hmm : mem E i with
      | false => rfl
      | true => obtain ⟨R, hR⟩ := (hkE i).2 (mem_mem hmm); rw [(hkdE i R).2 hR] at hkd; cases hkd
  have key := headE_run hdsl (P := P) (n := n) (w0 := w0) (mu := mu) (l := l) (hp := hp) (all := ops.toArray) (kd := kd) (val := val) (k := k) (g := ops.toArray.size - k) (Q' := QQ n w0 mu Q) hks hd hf hback
    (fun i o v hi ho hkd => by
      obtain ⟨e1, e2⟩ := hkdS i v hkd
      obtain ⟨o', iv', h1, h2, h3⟩ := hsS i v e2
      rw [ho] at h1; cases h1
      exact ⟨(hvalS i v e2).2, iv', fun j u hu => hvalS j u (h2 j u (by rw [← look_lk]; exact hu)), h3⟩)
    (fun i o R hi ho hkd => by
      have e1 := (hkdE i R).1 hkd
      obtain ⟨_, o', h1, h2, _⟩ := hsE i R (hlkm i R e1)
      rw [ho] at h1; cases h1
      refine ⟨fun c => ?_, ivS, fun j u hu => hvalS j u (by rw [← look_lk]; exact hu), h2⟩
      show (match kd i with | .s v => v | .e _ => (c i).1 | .d => (lk (F c) i).getD undef) = _
      rw [hkd])
    (fun c hcv i o hi ho hkd => by
      obtain ⟨e1, e2⟩ := hkdD i hkd
      obtain ⟨v, hv⟩ := hFall c hcv i hi
      obtain ⟨_, _, _, _, hsp⟩ := hF c hcv
      rw [hvalF c hcv i v hv]
      rcases hsp i v hv with h0 | ⟨o', iv', h1, h2, h3⟩
      · rw [chs_lk, e1] at h0; rw [e2] at h0; cases h0
      · rw [ho] at h1; cases h1
        refine ⟨iv', fun j u hu => ?_, h3⟩
        have hj := h2 j u (by rw [← look_lk]; exact hu)
        refine ⟨?_, hvalF c hcv j u hj⟩
        obtain ⟨_, _, _, hkk, _⟩ := hF c hcv
        rcases (hkk j).1 ⟨u, hj⟩ with h | ⟨v', h⟩
        · exact hlt' j (List.mem_append_right _ h)
        · rw [chs_lk] at h
          cases hR : lk Rs j with
          | some R => exact hlt' j (List.mem_append_left _ (List.mem_append_right _ ((hkE j).1 ⟨R, hR⟩)))
          | none => rw [hR] at h; exact (hvalS j v' h).1)
    (fun c listed inv hall a w hmid => by
      have hl : listed = (Array.replicate k true) ++ (Array.replicate (ops.toArray.size - k) false) := by
        apply Array.ext
        · simp [inv.size]; simp at hltk; omega
        · intro i h1 h2
          by_cases hi : i < k
          · have := hall i hi
            simp [h1] at this
            rw [Array.getElem_append_left (by simpa using hi)]
            simpa using this
          · have h3 := inv.tail i (by omega) (by rw [inv.size] at h1; exact h1)
            simp [h1] at h3
            rw [Array.getElem_append_right (by simp; omega)]
            simpa using h3
      have hdl : (ops.drop k).length = ops.toArray.size - k := by simp
      rw [← hdl]
      refine wpAny_of_seq (ops.drop k) k listed a w (fun j => by simp) (by rw [hl, hdl]; exact hseq) ?_
      have hldone : ∀ i, i < k → listed.getD i false = true := fun i hi => by
        cases hcc : listed.getD i false with
        | true => rfl
        | false => have := hall i hi; rw [getD_in (by rw [inv.size]; omega) hcc] at this; cases this
      obtain ⟨hops, huq, hmo, hkk, hsp⟩ := hF c hmid.valid
      refine hops a w ⟨hmid.size, hmid.defers, fun t v ht => ?_⟩ ?_
      · rcases look_append ht with ht | ⟨_, ht⟩
        · obtain ⟨j, h1, h2⟩ := headFm_mem (look_mem ht)
          have hjd := hdsl _ _ h2
          have hj := huq j v h1
          have hjk : j < k := by
            rcases (hkk j).1 ⟨v, hj⟩ with h | ⟨v', h⟩
            · exact hlt' j (List.mem_append_right _ h)
            · rw [chs_lk] at h
              cases hR : lk Rs j with
              | some R => exact hlt' j (List.mem_append_left _ (List.mem_append_right _ ((hkE j).1 ⟨R, hR⟩)))
              | none => rw [hR] at h; exact (hvalS j v' h).1
          rw [hmid.done j hjk (hldone j hjk) c hmid.valid (fun _ _ _ _ => rfl) t hjd]
          exact hvalF c hmid.valid j v hj
        · exact hmid.has t v ht
      · have e : ∀ m, m ≤ k → blks kd c listed m = blE E c m := by
          intro m
          induction m with
          | zero => intro _; rfl
          | succ m ih =>
            intro hm
            simp only [blks, blE, blkAt]
            rw [ih (by omega), hisE m (by omega), hldone m (by omega), Bool.and_true]
        rw [← e k (Nat.le_refl _)]
        exact hmid.good)
    (fun listed inv i hi hun t ht => tail_waits hs hc hltk inv _ i rfl hi hun t ht)
    k c0 _ a { w with drawn := w.drawn + 1 } hleft inv0 ⟨hk.size, hk.defers, hk.has, hc0, by rw [hbl0]; exact hG.drawn _, fun i _ hl => (by rw [getD_replicate_false] at hl; cases hl)⟩
  have e : k + (ops.toArray.size - k) = ops.toArray.size := by omega
  rw [e] at key
  exact key
/-! ### The row of rules, its makers' answers one behind the other -/
def hpK (c : Ch) : List Nat → Hp
  | [] => []
  | i :: r => (c i).2 ++ hpK c r
theorem blE_hpK (E : List Nat) (c : Ch) : ∀ k, blE E c k = hpK c ((List.range k).reverse.filter (mem E)) := by
  intro k
  induction k with
  | zero => rfl
  | succ k ih =>
    rw [List.range_succ, List.reverse_append]
    simp only [List.reverse_cons, List.reverse_nil, List.nil_append, List.cons_append, List.filter_cons, blE, ih]
    cases mem E k <;> simp [hpK]
def DN (X : Fm → Hp → Prop) : List (Nat × RT) → Prop
  | [] => X [] []
  | p :: r => ∀ v hn, p.2 v hn → DN (fun iv bl => X ((p.1, v) :: iv) (hn ++ bl)) r
theorem dn_c : ∀ (Rs : List (Nat × RT)) (X : Fm → Hp → Prop) (c : Ch), DN X Rs → AllR c Rs → X (chs c Rs) (hpK c (Rs.map (·.1))) := by
  intro Rs
  induction Rs with
  | nil => intro X c h _; exact h
  | cons p r ih => intro X c h ha; exact ih _ c (h _ _ ha.1) ha.2
theorem de1_mono {X Y : Fm → Prop} (hXY : ∀ iv, X iv → Y iv) : ∀ (S : List Nat) (iv : Fm), DE1 P n w0 mu all ds l hp X S iv → DE1 P n w0 mu all ds l hp Y S iv := by
  intro S
  induction S with
  | nil => intro iv h; exact hXY iv h
  | cons i S ih => rintro iv ⟨o, v, ho, hy, h⟩; exact ⟨o, v, ho, hy, ih _ h⟩
theorem de2_mono {iv : Fm} {X Y : List (Nat × RT) → Prop} : ∀ (E : List Nat) (Rs : List (Nat × RT)) (hXY : ∀ Rs', Rs'.map (·.1) = E.reverse ++ Rs.map (·.1) → X Rs' → Y Rs'), DE2 P n w0 mu all ds l hp iv X E Rs → DE2 P n w0 mu all ds l hp iv Y E Rs := by
  intro E
  induction E with
  | nil => intro Rs hXY h; exact hXY Rs (by simp) h
  | cons i E ih =>
    rintro Rs hXY ⟨o, R, ho, hy, hi, h⟩
    exact ⟨o, R, ho, hy, hi, ih _ (fun Rs' e hX => hXY Rs' (by rw [e]; simp) hX) h⟩
theorem st_drawMA {ops : List Oper} (k : Nat) (S E D : List Nat) (hB : drawB ops.toArray k n = true) (hf : freshB l (dstsOf ops.toArray k) = true) (hsp : splitB k S E D = true) (hds : dstTab ops 0 = ds)
    (h : DE1 P n w0 mu ops.toArray ds l hp (fun ivS => DE2 P n w0 mu ops.toArray ds l hp ivS (fun Rs => DN (fun iv bl => DE3 P n w0 mu ops.toArray ds l hp (fun iv2 => Ops P n w0 mu ops.toArray (ops.drop k) (headFm ds iv2 ++ l) (bl ++ hp) Q) D (iv ++ ivS)) Rs) E []) S []) : StAny P n w0 mu ops.toArray l hp Q := by
  refine st_drawE k S E D hB hf hsp hds (de1_mono (fun ivS h2 => de2_mono E [] (fun Rs e h3 c hc => ?_) h2) S [] h)
  have := dn_c Rs _ c h3 hc
  have he : blE E c k = hpK c (Rs.map (·.1)) := by
    simp only [splitB, Bool.and_eq_true, decide_eq_true_eq] at hsp
    rw [blE_hpK, ← hsp.1.1.1, e]; simp
  rw [he]
  exact this
theorem st_drawM {id : Nat} {ops : List Oper} (k : Nat) (S E D : List Nat) (hm : P.follows .mixedOrders = true) (hB : drawB ops.toArray k n = true) (hf : freshB l (dstsOf ops.toArray k) = true) (hsp : splitB k S E D = true) (hds : dstTab ops 0 = ds)
    (h : DE1 P n w0 mu ops.toArray ds l hp (fun ivS => DE2 P n w0 mu ops.toArray ds l hp ivS (fun Rs => DN (fun iv bl => DE3 P n w0 mu ops.toArray ds l hp (fun iv2 => Ops P n w0 mu ops.toArray (ops.drop k) (headFm ds iv2 ++ l) (bl ++ hp) Q) D (iv ++ ivS)) Rs) E []) S []) : St P n w0 mu (.region id ops.toArray true) l hp Q := st_any hm (st_drawMA k S E D hB hf hsp hds h)
/-! ### The rules -/
section
variable {X : Fm → Prop} {Y : Fm → Prop} {Z : List (Nat × RT) → Prop} {i d : Nat} {iv : Fm} {S E D : List Nat} {Rs : List (Nat × RT)} {op : Op} {ty : TypeId} {pos : String} {af : Array Edge} {v : Value}
theorem de1_nil (h : X iv) : DE1 P n w0 mu all ds l hp X [] iv := h
theorem de1_s (ho : all[i]? = some ⟨some d, op, ty, pos, af, none⟩) (hy : ∀ hx, Hy P n w0 mu (depFm ds iv af.toList ++ l) (hx ++ hp) ⟨some d, op, ty, pos, af, none⟩ v) (h : DE1 P n w0 mu all ds l hp X S ((i, v) :: iv)) : DE1 P n w0 mu all ds l hp X (i :: S) iv := ⟨_, v, ho, fun hx => hy hx, h⟩
theorem de2_nil (h : Z Rs) : DE2 P n w0 mu all ds l hp iv Z [] Rs := h
theorem de2_e {R : RT} (ho : all[i]? = some ⟨some d, op, ty, pos, af, none⟩) (he : EoR P n w0 mu (depFm ds iv af.toList ++ l) hp ⟨some d, op, ty, pos, af, none⟩ R) (hi : ∃ v hn, R v hn) (h : DE2 P n w0 mu all ds l hp iv Z E ((i, R) :: Rs)) : DE2 P n w0 mu all ds l hp iv Z (i :: E) Rs := ⟨_, R, ho, he, hi, h⟩
theorem de3_nil (h : Y iv) : DE3 P n w0 mu all ds l hp Y [] iv := h
theorem de3_d (ho : all[i]? = some ⟨some d, op, ty, pos, af, none⟩) (hy : HyR P n w0 mu (depFm ds iv af.toList ++ l) hp ⟨some d, op, ty, pos, af, none⟩ v) (h : DE3 P n w0 mu all ds l hp Y D ((i, v) :: iv)) : DE3 P n w0 mu all ds l hp Y (i :: D) iv := ⟨_, v, ho, hy, h⟩
end
section
variable {T : Tab} {lf : Fm} {dd : Option Tmp} {ty : TypeId} {pos : String} {af : Array Edge}
theorem eo_new {o : Oper} (hg : o.guard = none) (F : Nat → Value) (cs : Array Value) (t : TypeId) (hrun : ∀ a w, Knows n lf a → (execOp a.eval o).run P w = .ok (.value (F w.heap.size)) (w.alloc (.cells cs t))) : EoR P n w0 mu lf hp o (fun v hn => ∃ b, v = F b ∧ hn = [⟨b, cs, t⟩]) :=
  ⟨hg, fun a w hx hk hG K Q hK => by
    unfold Oper.wp
    rw [hrun a w hk]
    exact hK _ _ _ ⟨_, rfl, rfl⟩ (hG.alloc cs t)⟩
theorem eo_alloc (ok : TabOk P T) {t : TypeId} {z : Value} {cs : List Value} (hz : lk T.zs t = some z) (hc : z.cells = cs.toArray) : EoR P n w0 mu lf hp ⟨dd, .alloc t, ty, pos, af, none⟩ (fun v hn => ∃ b, v = .pointer (some ⟨b, 0, none⟩) ∧ hn = [⟨b, cs.toArray, t⟩]) := by
  rw [← hc]
  refine eo_new (F := fun b => .pointer (some ⟨b, 0, none⟩)) rfl _ _ fun a w _ => ?_
  simp only [execOp]
  have hz' := ok.gzs hz
  cases hi : P.info? t with
  | none => simp [zeroOf, hi] at hz'
  | some i =>
    have hz2 : i.zero = some z := by simpa [zeroOf, hi] using hz'
    simp [Instr.alloc, zeroValue, typeInfo, hi, hz2, go_sem]
theorem eo_box {t : TypeId} {x : Operand} {v : Value} {cs : List Value} (hx : ev lf x = some v) (hc : v.cells = cs.toArray) : EoR P n w0 mu lf hp ⟨dd, .box t x, ty, pos, af, none⟩ (fun u hn => ∃ b, u = .pointer (some ⟨b, 0, none⟩) ∧ hn = [⟨b, cs.toArray, t⟩]) := by
  rw [← hc]
  refine eo_new (F := fun b => .pointer (some ⟨b, 0, none⟩)) rfl _ _ fun a w hk => ?_
  simp only [execOp, hk.ev hx]
  simp [Instr.box, go_sem]
theorem eo_make (ok : TabOk P T) {t e sz by_ : Nat} {x y : Operand} {z : Value} {k k' : IntKind} {m : Nat} (hx : ev lf x = some (.int k (m : Int))) (hy : ev lf y = some (.int k' (m : Int))) (ht : lk T.sl t = some (e, sz)) (hz : lk T.zs e = some z) (hb : lk T.eb e = some by_)
    (h24 : m * sz ≤ 16777216) (h48 : by_ * m ≤ 281474976710656) (h63 : m ≤ 9223372036854775807) : EoR P n w0 mu lf hp ⟨dd, .makeSlice t x y, ty, pos, af, none⟩ (fun v hn => ∃ b, v = .slice (some ⟨b, 0, none⟩) m m ∧ hn = [⟨b, madeCells z.cells (m * sz), e⟩]) := by
  refine eo_new (F := fun b => .slice (some ⟨b, 0, none⟩) m m) rfl _ _ fun a w hk => ?_
  obtain ⟨hu, hsz⟩ := ok.gsl ht
  have hbb := List.all_eq_true.1 ok.eb _ (lk_mem hb)
  simp only [beq_iff_eq] at hbb
  obtain ⟨i, hi, hiz, his, hib⟩ := info_of hsz hbb (ok.gzs hz)
  subst his hib
  have hr := run_makeSlice (P := P) w t e i z hu hi hiz k k' (m : Int) (m : Int) (by omega) (by omega) (by rw [Int.toNat_natCast]; exact h24) (by have : (((i.bytes * m : Nat)) : Int) ≤ 281474976710656 := (by omega); rw [Int.natCast_mul] at this; exact this) (by omega)
  simp only [Int.toNat_natCast] at hr
  unfold execOp
  simp only [Sem.run_bind, Sem.run_pure, Result.andThen_ok, hk.ev hx, hk.ev hy, hr]
theorem eo_call {f : FuncId} {xs : List Operand} {vs : List Value} {tys : Array TypeId} {R : Value → Hp → Prop} (hcal : Cal P f) (hv : evs lf xs = some vs) (hc : ∀ w, Good w0 mu hp w → Fn P f vs.toArray w [] R) : EoR P n w0 mu lf hp ⟨dd, .call { callee := .value (.func f), args := xs.toArray, argTypes := tys }, ty, pos, af, none⟩ R := by
  obtain ⟨fn, c, hf, hname, hb⟩ := hcal
  refine ⟨rfl, fun a w hx hk hG K Q hK => ?_⟩
  unfold Oper.wp
  rw [run_call rfl hf hname hb hk hv w]
  refine Calls.mono (hc w (hG.sub (List.sublist_append_right _ _))) ?_
  rintro e w' ⟨u, hn, rfl, hg', hR⟩
  exact hK u hn w' hR (hG.trans hg')
theorem eo_callE {f : FuncId} {xs : List Operand} {vs : List Value} {tys : Array TypeId} {v : Value} (hcal : Cal P f) (hv : evs lf xs = some vs) (hc : ∀ w, Good w0 mu hp w → Fn P f vs.toArray w [] (fun u _ => u = v)) : EoR P n w0 mu lf hp ⟨dd, .call { callee := .value (.func f), args := xs.toArray, argTypes := tys }, ty, pos, af, none⟩ (fun u hn => u = v ∧ hn = []) := by
  obtain ⟨hg, h⟩ := eo_call (n := n) (mu := mu) (hp := hp) (dd := dd) (ty := ty) (pos := pos) (af := af) (tys := tys) hcal hv hc
  exact ⟨hg, fun a w hx hk hG K Q hK => h a w hx hk hG K Q fun u hn w' hu hG' => hK u [] w' ⟨hu, rfl⟩ (hG'.sub (List.sublist_append_right _ _))⟩
theorem r_move {x : Operand} {v : Value} (hx : ev lf x = some v) : HyR P n w0 mu lf hp ⟨dd, .move x, ty, pos, af, none⟩ v := ⟨rfl, fun a w hk _ => by simp [execOp, hk.ev hx]⟩
theorem r_assign {x : Operand} {v : Value} (hx : ev lf x = some v) : HyR P n w0 mu lf hp ⟨dd, .assign x, ty, pos, af, none⟩ v := ⟨rfl, fun a w hk _ => by simp [execOp, hk.ev hx]⟩
theorem r_extract {x : Operand} {i : Nat} {vs : Array Value} {v : Value} (hx : ev lf x = some (.tuple vs)) (hi : nth vs.toList i = some v) : HyR P n w0 mu lf hp ⟨dd, .extract x i, ty, pos, af, none⟩ v := ⟨rfl, fun a w hk _ => by
  rw [nth_eq] at hi
  have hi' : vs[i]? = some v := by simpa using hi
  simp [execOp, hk.ev hx, Instr.extract, hi']⟩
theorem r_build (ok : TabOk P T) {t : TypeId} {ps : List (Nat × Operand)} {vs : List (Nat × Value)} {z : Value} {pl : List (Nat × Nat)} {zc out out' : Array Value} (hz : lk T.zs t = some z) (hzc : z.cells = zc) (hpl : lk T.pl t = some pl) (hv : evp lf ps = some vs) (hf : fl pl zc vs = some out) (hn : out = out') : HyR P n w0 mu lf hp ⟨dd, .build t ps.toArray, ty, pos, af, none⟩ (.agg out') := by
  subst hn
  subst hzc
  refine ⟨rfl, fun a w hk _ => ?_⟩
  simp only [execOp]
  have e : (ps.toArray.map fun x => (x.1, a.eval x.2)) = vs.toArray := by rw [← hk.evp hv]; simp
  have hpl' := ok.gpl hpl
  have hfill := fl_fill _ _ _ _ hf
  unfold places at hpl'
  cases hu : P.underlying t with
  | none => rw [hu] at hpl'; cases hpl'
  | some d =>
    rw [hu] at hpl'
    cases d with
    | struct fs =>
      have e2 := run_places hpl' w
      simp only [Instr.build, Sem.run_bind, run_zero (ok.gzs hz) w, Result.andThen_ok, run_underlying hu w, e, e2]
      have hf2 : Instr.fill (fun x => pl[x]?) z.cells vs = some out := by simpa using hfill
      simp [hf2]
    | _ => cases hpl'
end
end
end
end Go.Proofs.YtdfkcjjbflcafaaGreat
