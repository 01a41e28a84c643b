/- The engine: a drawn region with a chain of operations that make memory or write it, and quiet ones between that hang on them (marked true in the row) and come whenever they may. No program in sight. -/
import Derived.Test.YtiaelhhmlbfkmaaGreatEngNB
import Derived.Test.YtiaelhhmlbfkmaaGreatEngR
namespace Go.Proofs.YtiaelhhmlbfkmaaGreat
open Go.RowKit
set_option linter.unusedVariables false
set_option linter.unusedSimpArgs false
/-- What an operation makes of known blocks, and tells. -/
def EoC (P : Program) (n : Nat) (w0 : World) (mu : List Nat) (all : Array Oper) (lf : Fm) (hp : Hp) (o : Oper) (R : RT) : Prop :=
  (∀ a, Knows n lf a → Region.wanted o (yielded all a.tmps) = true) ∧ ∀ a w, Knows n lf a → Good w0 mu hp w → ∀ (K : Act → World → Prop) (Q : Exit → Act → World → Prop), (∀ v h' w', R v h' → Good w0 mu h' w' → K (a.put o.dst v) w') → o.wp P a w K Q
def DCX (P : Program) (n : Nat) (w0 : World) (mu : List Nat) (all : Array Oper) (ds : List (Nat × Nat)) (l : Fm) (h0 hb : Hp) (t0 : Nat) (X : Fm → Fm → Hp → Prop) : List (Nat × Bool) → Fm → Fm → Hp → Prop
  | [], ivS, ivE, h => X ivS ivE h
  | (i, false) :: r, ivS, ivE, h => ∃ o, all[i]? = some o ∧ ((o.dst.isSome = true ∧ ∃ R : RT, EoR P n w0 mu all (depFm ds (ivE ++ ivS) o.after.toList ++ l) h o R ∧ ∀ v hn, R v hn → DCX P n w0 mu all ds l h0 hb t0 X r ivS ((i, v) :: ivE) (hn ++ h)) ∨
      (o.dst = none ∧ ∃ h', HyS P n w0 mu (depFm ds (ivE ++ ivS) o.after.toList ++ l) h o h' ∧ HpLe h0 h' ∧ DCX P n w0 mu all ds l h0 hb t0 X r ivS ivE h') ∨
      (o.dst.isSome = true ∧ ∃ R : RT, EoC P n w0 mu all (depFm ds (ivE ++ ivS) o.after.toList ++ l) h o R ∧ ∀ v h', R v h' → HpLe h0 h' ∧ ((i = t0 ∨ Region.waitsFor .any all i t0 = true) ∨ HpLe hb h') ∧ DCX P n w0 mu all ds l h0 hb t0 X r ivS ((i, v) :: ivE) h'))
  | (i, true) :: r, ivS, ivE, h => ∃ o v, all[i]? = some o ∧ HyR P n w0 mu (depFm ds (ivE ++ ivS) o.after.toList ++ l) [] o v ∧ DCX P n w0 mu all ds l h0 hb t0 X r ((i, v) :: ivS) ivE h
def preX (all : Array Oper) : List Nat → List Nat → Bool
  | _, [] => true
  | seen, x :: r => seen.any (fun y => Region.waitsFor .any all x y) && preX all (x :: seen) r
def linkX (all : Array Oper) : List (Nat × Bool) → Bool
  | [] => true
  | (c, d) :: r => (d || preX all [c] (r.map (·.1))) && linkX all r
theorem preX_mem' {all : Array Oper} : ∀ {r seen : List Nat}, preX all seen r = true → ∀ x ∈ r, ∃ y, (y ∈ seen ∨ y ∈ r) ∧ Region.waitsFor .any all x y = true := by
  intro r
  induction r with
  | nil => intro seen _ x hx; cases hx
  | cons z r ih =>
    intro seen h x hx
    simp only [preX, Bool.and_eq_true] at h
    rcases List.mem_cons.1 hx with rfl | hx
    · obtain ⟨y, hy, h2⟩ := List.any_eq_true.1 h.1
      exact ⟨y, .inl hy, h2⟩
    · obtain ⟨y, hy, h2⟩ := ih h.2 x hx
      rcases hy with hy | hy
      · rcases List.mem_cons.1 hy with rfl | hy
        · exact ⟨_, .inr (List.mem_cons_self ..), h2⟩
        · exact ⟨y, .inl hy, h2⟩
      · exact ⟨y, .inr (List.mem_cons_of_mem _ hy), h2⟩
theorem preX_mem {all : Array Oper} {c : Nat} {r : List (Nat × Bool)} (h : preX all [c] (r.map (·.1)) = true) : ∀ x ∈ r.map (·.1), ∃ y, (y ∈ [c] ∨ y ∈ r.map (·.1)) ∧ Region.waitsFor .any all x y = true := preX_mem' h
theorem left_zero {k : Nat} {listed : Array Bool} {all : Array Oper} (h : leftOf k listed = 0) {i : Nat} (hi : i < k) (inv : HeadInv .any all k listed) (hk : k ≤ all.size) : listed.getD i true = true := by
  cases hc : listed.getD i true with
  | true => rfl
  | false =>
    exfalso
    have : i ∈ (List.range k).filter fun i => !listed.getD i true := List.mem_filter.2 ⟨List.mem_range.2 hi, by simp only [hc, Bool.not_false]⟩
    have h2 := List.length_pos_of_mem this
    unfold leftOf at h
    omega
section
variable {P : Program} {n : Nat} {w0 : World} {mu : List Nat} {l : Fm} {h0 hp : Hp} {Q : Exit → Fm → Hp → Prop} {all : Array Oper} {k t0 : Nat} {ds : List (Nat × Nat)}
/-- What is known ahead is told by the operations. -/
structure SOk (P : Program) (n : Nat) (w0 : World) (mu : List Nat) (all : Array Oper) (ds : List (Nat × Nat)) (l : Fm) (h0 hp : Hp) (t0 k : Nat) (ivS ivE : Fm) : Prop where
  so : ∀ i v, lk ivS i = some v → i < k ∧ ∃ o iv', all[i]? = some o ∧ (∀ j u, look iv' j = some u → lk ivE j = some u ∨ lk ivS j = some u) ∧ ∀ hx, HyG P n w0 mu all (depFm ds iv' o.after.toList ++ l) (bif Region.waitsFor .any all t0 i then hx ++ hp else hx ++ h0) o v
  uq : Uq ivS
theorem sok_e {ivS ivE : Fm} {i : Nat} {v : Value} (hne : ∀ u, (i, u) ∉ ivE) (h : SOk P n w0 mu all ds l h0 hp t0 k ivS ivE) : SOk P n w0 mu all ds l h0 hp t0 k ivS ((i, v) :: ivE) := ⟨fun j u hu => by
  obtain ⟨h1, o, iv', h2, h3, h4⟩ := h.1 j u hu
  exact ⟨h1, o, iv', h2, fun a b hab => (h3 a b hab).imp (fun h => by rw [lk_cons, if_neg (fun e => by subst e; exact hne _ (lk_mem h))]; exact h) id, h4⟩, h.2⟩
theorem sok_more {ivS ivE : Fm} {i : Nat} {v : Value} {o : Oper} (h : SOk P n w0 mu all ds l h0 hp t0 k ivS ivE) (hi : i < k) (hn : lk ivS i = none) (ho : all[i]? = some o) (hy : HyR P n w0 mu (depFm ds (ivE ++ ivS) o.after.toList ++ l) [] o v) : SOk P n w0 mu all ds l h0 hp t0 k ((i, v) :: ivS) ivE := by
  have hmo : ∀ j u, lk ivS j = some u → lk ((i, v) :: ivS) j = some u := fun j u hu => by
    rw [lk_cons, if_neg (fun e => by subst e; rw [hn] at hu; cases hu)]; exact hu
  refine ⟨fun j u hu => ?_, fun j u hu => ?_⟩
  · rw [lk_cons] at hu
    by_cases hij : i = j
    · subst hij
      rw [if_pos rfl] at hu
      cases hu
      refine ⟨hi, o, ivE ++ ivS, ho, fun a b hab => ?_, fun hx => hyr_g hy⟩
      rw [look_lk, lk_app] at hab
      cases hE : lk ivE a with
      | some x => rw [hE] at hab; cases hab; exact .inl rfl
      | none => rw [hE] at hab; exact .inr (hmo _ _ hab)
    · rw [if_neg hij] at hu
      obtain ⟨h1, o', iv', h2, h3, h4⟩ := h.1 j u hu
      exact ⟨h1, o', iv', h2, fun a b hab => (h3 a b hab).imp id (hmo a b), h4⟩
  · rcases List.mem_cons.1 hu with hu | hu
    · cases hu; rw [lk_cons, if_pos rfl]
    · exact hmo _ _ (h.2 j u hu)
theorem midc_more {ivS ivE : Fm} {i : Nat} {v : Value} {h : Hp} {listed : Array Bool} {a : Act} {w : World} (hm : MidC n w0 mu all l ivS ivE h listed a w) (hun : listed.getD i true = false) (hn : lk ivS i = none) : MidC n w0 mu all l ((i, v) :: ivS) ivE h listed a w :=
  ⟨hm.size, hm.defers, hm.has, hm.good, fun j u hj hl d hd => by
    by_cases hij : i = j
    · subst hij; rw [getD_both hun] at hl; cases hl
    · rw [lk_cons, if_neg hij] at hj; exact hm.doneS j u hj hl d hd, hm.doneE⟩
def drawCXB (ops : Array Oper) (n k t0 : Nat) (S : List Nat) (C : List (Nat × Bool)) : Bool :=
  dstKB ops k n && backB ops && coverB k S (C.map (·.1)) && linkX ops C && tailB ops k && (List.range k).all fun i => (dstAt ops i).isSome || Nat.beq i t0 || Region.waitsFor .any ops i t0
theorem chain_runX (hds : ∀ k d, lk ds k = some d → dstAt all k = some d) {g : Nat} {Q' : Exit → Act → World → Prop} {X : Fm → Fm → Hp → Prop} (hk : k ≤ all.size) (hd : dstKB all k n = true) (hf : freshB l (dstsOf all k) = true) (hback : backB all = true) (hle0 : HpLe h0 hp)
    (hstb : ∀ i, i < k → dstAt all i = none → i = t0 ∨ Region.waitsFor .any all i t0 = true)
    (htail : ∀ ivS ivE h listed, HeadInv .any all k listed → (∀ i, i < k → listed.getD i true = true) → X ivS ivE h → ∀ a w, MidC n w0 mu all l ivS ivE h listed a w → (∀ i v, (i, v) ∈ ivE → i < k) → (∀ i v, lk ivS i = some v → i < k) → Uq ivS → wpAny P .any all Q' g listed a w)
    (hwait : ∀ listed, HeadInv .any all k listed → ∀ i, i < k → listed.getD i true = false → ∀ t, k ≤ t → t ∉ Region.ready .any all listed) :
    ∀ f r ivS ivE h listed a w, leftOf k listed = f → HeadInv .any all k listed → MidC n w0 mu all l ivS ivE h listed a w → SOk P n w0 mu all ds l h0 hp t0 k ivS ivE → (∀ i v, (i, v) ∈ ivE → i < k) → (∀ i ∈ r.map (·.1), i < k ∧ listed.getD i true = false ∧ lk ivS i = none) → (r.map (·.1)).Nodup → linkX all r = true → (∀ i, i < k → listed.getD i true = false → (∃ v, lk ivS i = some v) ∨ i ∈ r.map (·.1)) →
      HpLe h0 h → (listed.getD t0 false = false → HpLe hp h) → DCX P n w0 mu all ds l h0 hp t0 X r ivS ivE h → wpAny P .any all Q' (f + g) listed a w := by
  intro f
  induction f with
  | zero =>
    intro r
    induction r with
    | nil =>
      intro ivS ivE h listed a w hlf inv hm hS hEk hr hnd hlink hcov hle hlep hD
      rw [Nat.zero_add]
      exact htail ivS ivE h listed inv (fun i hi => left_zero hlf hi inv hk) hD a w hm hEk (fun i v hv => (hS.1 i v hv).1) hS.2
    | cons p r ihr =>
      intro ivS ivE h listed a w hlf inv hm hS hEk hr hnd hlink hcov hle hlep hD
      have h1 := hr p.1 (List.mem_cons_self ..)
      rw [left_zero hlf h1.1 inv hk] at h1
      exact absurd h1.2.1 (by decide)
  | succ f ih =>
    have STEP : ∀ r ivS ivE h listed a w, leftOf k listed = f + 1 → HeadInv .any all k listed → MidC n w0 mu all l ivS ivE h listed a w → SOk P n w0 mu all ds l h0 hp t0 k ivS ivE → (∀ i v, (i, v) ∈ ivE → i < k) → (∀ i ∈ r.map (·.1), i < k ∧ listed.getD i true = false ∧ lk ivS i = none) → (r.map (·.1)).Nodup → linkX all r = true → (∀ i, i < k → listed.getD i true = false → (∃ v, lk ivS i = some v) ∨ i ∈ r.map (·.1)) →
      HpLe h0 h → (listed.getD t0 false = false → HpLe hp h) → DCX P n w0 mu all ds l h0 hp t0 X r ivS ivE h → (∀ p r', r = p :: r' → p.2 = false) → wpAny P .any all Q' (f + 1 + g) listed a w := by
     intro r ivS ivE h listed a w hlf inv hm hS hEk hr hnd hlink hcov hle hlep hD hfst
     rw [show f + 1 + g = (f + g) + 1 by omega]
     have hex : ∃ i, i < k ∧ listed.getD i true = false := by
       have h2 : 0 < leftOf k listed := by omega
       obtain ⟨i, hi⟩ := List.exists_mem_of_length_pos h2
       rw [List.mem_filter] at hi
       exact ⟨i, List.mem_range.1 hi.1, by simpa using hi.2⟩
     obtain ⟨i0, hi0k, hi0⟩ := hex
     refine ⟨fun hnil => ?_, fun i hi => ?_⟩
     · exfalso
       obtain ⟨i, ⟨hik, hil⟩, hmin⟩ := exists_least (p := fun i => i < k ∧ listed.getD i true = false) ⟨i0, hi0k, hi0⟩
       have hr : i ∈ Region.ready .any all listed := by
         rw [mem_ready]
         have hs : i < all.size := by omega
         refine ⟨hil, all[i], by simp [hs], fun e he hb => ?_⟩
         have hb2 := List.all_eq_true.1 hback i (List.mem_range.2 hs)
         simp only [Array.getElem?_eq_getElem hs] at hb2
         have hb3 := (Array.all_eq_true_iff_forall_mem.1 hb2) e he
         simp only [hb, Bool.not_true, Bool.false_or, Nat.blt_eq] at hb3
         cases hc : listed.getD e.on false with
         | true => rfl
         | false =>
           have h5 := hmin e.on ⟨by omega, getD_in (by rw [inv.size]; omega) hc⟩
           omega
       rw [hnil] at hr; cases hr
     · have hik : i < k := by
         rcases Nat.lt_or_ge i k with h | h
         · exact h
         · exact absurd hi (hwait listed inv i0 hi0k hi0 i h)
       obtain ⟨hun, o, ho, hall⟩ := mem_ready.1 hi
       have hsz : i < listed.size := by rw [inv.size]; omega
       have hunf : listed.getD i false = false := getD_both hun
       have hleft : leftOf k (listed.setIfInBounds i true) = f := by have := left_set hik (by rw [inv.size]; omega) hun; omega
       have hwl : ∀ t, Region.waitsFor .any all i t = true → listed.getD t false = true := fun t ht => by
         obtain ⟨oj, h6, e, he, hb, heq⟩ := Region.waitsFor_spec ht
         rw [ho] at h6; cases h6
         rw [← heq]; exact hall e he hb
       unfold wpOp
       simp only [ho]
       cases hSi : lk ivS i with
       | some v =>
         obtain ⟨_, o', iv', ho', hmo, hy⟩ := hS.1 i v hSi
         rw [ho] at ho'; cases ho'
         have hkn := midc_knows (o := o) hds hm (iv' := iv') hmo hall
         have hir : i ∉ r.map (·.1) := fun hm' => by rw [(hr i hm').2.2] at hSi; cases hSi
         have hnext : ∀ w', Good w0 mu h w' → wpAny P .any all Q' (f + g) (listed.setIfInBounds i true) (a.put o.dst v) w' := fun w' hG' => by
           refine ih r ivS ivE h _ _ _ hleft (inv.set hi hik) (midc_put hm ho hik hun hsz hd hf hG' (fun j u hu => (hS.1 j u hu).1) hEk (.inl ⟨hSi, rfl⟩)) hS hEk (fun j hj => ?_) hnd hlink (fun j hj hl => ?_) hle (fun ht => ?_) hD
           · have hji : i ≠ j := fun e => hir (e ▸ hj)
             exact ⟨(hr j hj).1, by rw [getD_set_ne true hji]; exact (hr j hj).2.1, (hr j hj).2.2⟩
           · refine hcov j hj ?_
             by_cases hji : i = j
             · subst hji; simp [hsz] at hl
             · rwa [getD_set_ne true hji] at hl
           · refine hlep ?_
             by_cases hji : i = t0
             · subst hji; exact hunf
             · rwa [getD_set_ne false hji] at ht
         obtain ⟨hx, h3, hper⟩ : ∃ hx, HyG P n w0 mu all (depFm ds iv' o.after.toList ++ l) hx o v ∧ hx.Perm h := by
           cases hwt : Region.waitsFor .any all t0 i with
           | true =>
             have ht0 : listed.getD t0 false = false := by
               cases hc : listed.getD t0 false with
               | false => rfl
               | true =>
                 obtain ⟨oj, h6, e, he, hb, heq⟩ := Region.waitsFor_spec hwt
                 have := inv.closed t0 oj h6 hc e he hb
                 rw [heq, hunf] at this; cases this
             obtain ⟨x, hxp⟩ := (hlep ht0).perm
             have h4 := hy x
             rw [hwt] at h4
             exact ⟨x ++ hp, h4, List.perm_append_comm.trans hxp⟩
           | false =>
             obtain ⟨x, hxp⟩ := hle.perm
             have h4 := hy x
             rw [hwt] at h4
             exact ⟨x ++ h0, h4, List.perm_append_comm.trans hxp⟩
         have hgd : Good w0 mu hx w := hm.good.perm hper
         replace hnext : ∀ w', Good w0 mu hx w' → wpAny P .any all Q' (f + g) (listed.setIfInBounds i true) (a.put o.dst v) w' := fun w' hG' => hnext w' (hG'.perm hper.symm)
         unfold HyG at h3
         cases hg : o.guard with
         | none =>
           rw [hg] at h3
           rw [if_pos (by simp [Region.wanted, hg])]
           exact .inl (h3 a w hkn hgd _ _ hnext)
         | some jw =>
           obtain ⟨j, want⟩ := jw
           rw [hg] at h3
           obtain ⟨dj, c0, b, u, hj, hb, hdj, hy, hvv⟩ := h3
           have hw := wanted_of hkn hg hj hb hdj
           cases hc : (c0 && wnt b want) with
           | true =>
             rw [hc] at hw hvv
             rw [if_pos hw]
             rw [Bool.and_eq_true] at hc
             rw [show v = u from hvv] at hnext
             exact .inl (hy hc.1 hc.2 a w hkn hgd _ _ hnext)
           | false =>
             rw [hc] at hw hvv
             rw [if_neg (by rw [hw]; decide)]
             rw [show v = undef from hvv] at hnext
             exact hnext w hgd
       | none =>
         have hir : i ∈ r.map (·.1) := by
           rcases hcov i hik hun with ⟨v, hv⟩ | h
           · rw [hSi] at hv; cases hv
           · exact h
         cases r with
         | nil => cases hir
         | cons c r =>
           obtain ⟨c, cb⟩ := c
           obtain rfl : cb = false := hfst _ _ rfl
           simp only [linkX, Bool.false_or, Bool.and_eq_true] at hlink
           have hic : i = c := by
             rcases List.mem_cons.1 hir with h | h
             · exact h
             · exfalso
               obtain ⟨p, h1, h3⟩ := preX_mem hlink.1 i h
               have h1' : p ∈ (((c, false) :: r).map (·.1)) := by
                 rcases h1 with h1 | h1
                 · rw [List.mem_singleton.1 h1]; exact List.mem_cons_self ..
                 · exact List.mem_cons_of_mem _ h1
               have := (hr p h1').2.1; have h5 := hwl p h3
               rw [getD_both this] at h5; cases h5
           subst hic
           rw [List.map_cons, List.nodup_cons] at hnd
           have hlink' : linkX all r = true := hlink.2
           have hr' : ∀ j ∈ r.map (·.1), j < k ∧ (listed.setIfInBounds i true).getD j true = false ∧ lk ivS j = none := fun j hj => by
             have h1 := hr j (List.mem_cons_of_mem _ hj)
             have hji : i ≠ j := fun e => hnd.1 (e ▸ hj)
             exact ⟨h1.1, by rw [getD_set_ne true hji]; exact h1.2.1, h1.2.2⟩
           have hcov' : ∀ j, j < k → (listed.setIfInBounds i true).getD j true = false → (∃ v, lk ivS j = some v) ∨ j ∈ r.map (·.1) := fun j hj hl => by
             by_cases hji : i = j
             · subst hji; simp [hsz] at hl
             · rw [getD_set_ne true hji] at hl
               rcases hcov j hj hl with h | h
               · exact .inl h
               · exact .inr ((List.mem_cons.1 h).resolve_left (Ne.symm hji))
           have hkn := midc_knows (o := o) hds hm (iv' := ivE ++ ivS) (fun j u hu => by
             rw [look_lk, lk_app] at hu
             cases hE : lk ivE j with
             | some v => rw [hE] at hu; exact .inl hu
             | none => rw [hE] at hu; exact .inr hu) hall
           unfold DCX at hD
           obtain ⟨o', ho', hD⟩ := hD
           rw [ho] at ho'; cases ho'
           rcases hD with ⟨hds', R, ⟨hg, hE⟩, hD⟩ | ⟨hdn, h', ⟨hg, _, hSt⟩, hle', hD⟩ | ⟨hds', R, ⟨hg, hE⟩, hD⟩
           · rw [if_pos (hg _ hkn)]
             refine .inl (hE a w [] hkn (by simpa using hm.good) _ _ fun v hn w' hR hG' => ?_)
             rw [List.nil_append] at hG'
             have hlen : ∀ x : Hp, HpLe x h → HpLe x (hn ++ h) := fun x hx => hpLe_cnt fun b => by have := hx.cnt b; rw [cntB_app]; omega
             refine ih r ivS ((i, v) :: ivE) (hn ++ h) _ _ _ hleft (inv.set hi hik) (midc_put hm ho hik hun hsz hd hf hG' (fun j u hu => (hS.1 j u hu).1) hEk (.inr ⟨hSi, rfl⟩)) (sok_e (fun u hu => by have := (hm.doneE i u hu).1; rw [hunf] at this; cases this) hS) (fun j u hu => ?_) hr' hnd.2 hlink' hcov' (hlen _ hle) (fun ht => hlen _ (hlep ?_)) (hD v hn hR)
             · rcases List.mem_cons.1 hu with hu | hu
               · cases hu; exact hik
               · exact hEk j u hu
             · by_cases hji : i = t0
               · subst hji; exact hunf
               · rwa [getD_set_ne false hji] at ht
           · rw [if_pos (by simp [Region.wanted, hg])]
             refine .inl (hSt a w hkn hm.good _ _ fun w' hG' => ?_)
             have hmc : MidC n w0 mu all l ivS ivE h' (listed.setIfInBounds i true) a w' := by
               refine ⟨hm.size, hm.defers, hm.has, hG', fun j u hj hl d hdj => ?_, fun j u hj => ⟨getD_set_true (hm.doneE j u hj).1, (hm.doneE j u hj).2⟩⟩
               have hji : i ≠ j := fun e => by subst e; rw [hSi] at hj; cases hj
               exact hm.doneS j u hj (by rwa [getD_set_ne false hji] at hl) d hdj
             refine ih r ivS ivE h' _ _ _ hleft (inv.set hi hik) hmc hS hEk hr' hnd.2 hlink' hcov' hle' (fun ht => ?_) hD
             exfalso
             rcases hstb i hik (by simp [dstAt, ho, hdn]) with e | e
             · subst e
               rw [show (listed.setIfInBounds i true).getD i false = true by simp [hsz]] at ht; cases ht
             · have := getD_set_true (i := i) (hwl t0 e)
               rw [this] at ht; cases ht
           · rw [if_pos (hg _ hkn)]
             refine .inl (hE a w hkn hm.good _ _ fun v h' w' hR hG' => ?_)
             obtain ⟨hle', hit, hD'⟩ := hD v h' hR
             refine ih r ivS ((i, v) :: ivE) h' _ _ _ hleft (inv.set hi hik) (midc_put hm ho hik hun hsz hd hf hG' (fun j u hu => (hS.1 j u hu).1) hEk (.inr ⟨hSi, rfl⟩)) (sok_e (fun u hu => by have := (hm.doneE i u hu).1; rw [hunf] at this; cases this) hS) (fun j u hu => ?_) hr' hnd.2 hlink' hcov' hle' (fun ht => ?_) hD'
             · rcases List.mem_cons.1 hu with hu | hu
               · cases hu; exact hik
               · exact hEk j u hu
             · rcases hit with (e | e) | e
               · exfalso
                 subst e
                 rw [show (listed.setIfInBounds i true).getD i false = true by simp [hsz]] at ht; cases ht
               · exfalso
                 have := getD_set_true (i := i) (hwl t0 e)
                 rw [this] at ht; cases ht
               · exact e
    intro r0
    induction r0 with
    | cons p r0 ihr =>
      obtain ⟨i, db⟩ := p
      cases db with
      | true =>
        intro ivS ivE h listed a w hlf inv hm hS hEk hr hnd hlink hcov hle hlep hD
        obtain ⟨o, v, ho, hy, hD⟩ := hD
        have hri := hr i (List.mem_cons_self ..)
        have hnd' := List.nodup_cons.1 hnd
        exact ihr ((i, v) :: ivS) ivE h listed a w hlf inv (midc_more hm hri.2.1 hri.2.2) (sok_more hS hri.1 hri.2.2 ho hy) hEk (fun j hj => by
          have h1 := hr j (List.mem_cons_of_mem _ hj)
          have hji : i ≠ j := fun e => hnd'.1 (e ▸ hj)
          exact ⟨h1.1, h1.2.1, by rw [lk_cons, if_neg hji]; exact h1.2.2⟩) hnd'.2 (by simpa [linkX] using hlink) (fun j hj hl => by
          by_cases hji : i = j
          · subst hji; exact .inl ⟨v, by rw [lk_cons, if_pos rfl]⟩
          · rcases hcov j hj hl with ⟨u, hu⟩ | h
            · exact .inl ⟨u, by rw [lk_cons, if_neg hji]; exact hu⟩
            · exact .inr ((List.mem_cons.1 h).resolve_left (Ne.symm hji))) hle hlep hD
      | false =>
        intro ivS ivE h listed a w hlf inv hm hS hEk hr hnd hlink hcov hle hlep hD
        exact STEP ((i, false) :: r0) ivS ivE h listed a w hlf inv hm hS hEk hr hnd hlink hcov hle hlep hD (fun p r e => by cases e; rfl)
    | nil =>
      intro ivS ivE h listed a w hlf inv hm hS hEk hr hnd hlink hcov hle hlep hD
      exact STEP [] ivS ivE h listed a w hlf inv hm hS hEk hr hnd hlink hcov hle hlep hD (fun p r e => by cases e)

theorem st_drawCX {ops : List Oper} (k t0 : Nat) (S : List Nat) (C : List (Nat × Bool)) (h0 : Hp) (hB : drawCXB ops.toArray n k t0 S C = true) (hf : freshB l (dstsOf ops.toArray k) = true) (hle0 : HpLe h0 hp) (hds : dstTab ops 0 = ds)
    (h : DS P n w0 mu ops.toArray ds l h0 hp t0 (fun ivS0 => DCX P n w0 mu ops.toArray ds l h0 hp t0 (fun ivS ivE hc => Ops P n w0 mu ops.toArray (ops.drop k) (headFm ds (ivE ++ ivS) ++ l) hc Q) C ivS0 [] hp) S []) : StAny P n w0 mu ops.toArray l hp Q := by
  intro a w hk hG
  simp only [drawCXB, Bool.and_eq_true] at hB
  obtain ⟨⟨⟨⟨⟨hd, hback⟩, hcover⟩, hlink⟩, htailB⟩, hstb⟩ := hB
  simp only [coverB, Bool.and_eq_true, decide_eq_true_eq] at hcover
  obtain ⟨⟨hnd, hlt⟩, hcov⟩ := hcover
  have hlt' : ∀ i ∈ S ++ C.map (·.1), i < k := fun i hi => by have := List.all_eq_true.1 hlt i hi; simpa using this
  rw [List.nodup_append] at hnd
  obtain ⟨hndS, hndC, hSC⟩ := hnd
  obtain ⟨ivS, hX, huS, hkS, hsS⟩ := ds_get S [] hndS (fun _ _ => rfl) (fun _ _ h => by cases h) h (fun i v hv => by cases hv)
  simp only [lk, reduceCtorEq, exists_false, or_false] at hkS
  have hks : k ≤ ops.toArray.size := by
    simp only [tailB, Bool.or_eq_true, Bool.and_eq_true, decide_eq_true_eq] at htailB
    rcases htailB with h | h <;> omega
  have hdsl : ∀ i d, lk ds i = some d → dstAt ops.toArray i = some d := fun i d h => by rw [← hds] at h; have := (dstTab_ok ops 0 i d h).2; simpa [dstAt] using this
  have inv0 : HeadInv .any ops.toArray k (Array.replicate ops.toArray.size false) :=
    ⟨by simp, fun j oj _ hl => (by rw [getD_replicate_false] at hl; cases hl), fun t _ ht => getD_in (by simpa using ht) (getD_replicate_false _ _)⟩
  have hun0 : ∀ i, i < k → (Array.replicate ops.toArray.size false).getD i true = false := fun i hi => getD_in (by simp at hks ⊢; omega) (getD_replicate_false _ _)
  have hleft : leftOf k (Array.replicate ops.toArray.size false) = k := by
    unfold leftOf
    rw [List.filter_eq_self.2]
    · simp
    · intro i hi
      simp only [hun0 i (by simpa using hi), Bool.not_false]
  have key := chain_runX hdsl (P := P) (n := n) (w0 := w0) (mu := mu) (l := l) (hp := hp) (h0 := h0) (all := ops.toArray) (k := k) (t0 := t0) (g := ops.toArray.size - k) (Q' := QQ n w0 mu Q) (X := fun ivS ivE hc => Ops P n w0 mu ops.toArray (ops.drop k) (headFm ds (ivE ++ ivS) ++ l) hc Q) hks hd hf hback hle0
    (fun i hi hdn => by
      have := List.all_eq_true.1 hstb i (List.mem_range.2 hi)
      rw [hdn] at this
      simp only [Option.isSome_none, Bool.false_or, Bool.or_eq_true] at this
      rcases this with h | h
      · exact .inl (Nat.eq_of_beq_eq_true h)
      · exact .inr h)
    (fun ivS ivE h listed inv hall hX a w hmid hEk hSk huS => by
      have hknows : Knows n (headFm ds (ivE ++ ivS) ++ l) a := by
        refine ⟨hmid.size, hmid.defers, fun t v ht => ?_⟩
        rcases look_append ht with ht | ⟨_, ht⟩
        · obtain ⟨j, h1, h2⟩ := headFm_mem (look_mem ht)
          rcases List.mem_append.1 h1 with h1 | h1
          · exact (hmid.doneE j v h1).2 t (hdsl _ _ h2)
          · have hj := huS j v h1
            have hjk := hSk j v hj
            refine hmid.doneS j v hj ?_ t (hdsl _ _ h2)
            have h5 := hall j hjk
            cases hcc : listed.getD j false with
            | true => rfl
            | false => rw [getD_in (by rw [inv.size]; omega) hcc] at h5; cases h5
        · exact hmid.has t v ht
      have hfin := hX a w hknows hmid.good
      simp only [tailB, Bool.or_eq_true, Bool.and_eq_true, decide_eq_true_eq] at htailB
      rcases htailB with hks2 | ⟨⟨⟨hltk, hs⟩, hc⟩, hseq⟩
      · have e0 : ops.drop k = [] := List.drop_eq_nil_of_le (by simp at hks2; omega)
        rw [e0] at hfin
        rw [show ops.toArray.size - k = 0 by omega]
        refine ⟨?_, hfin⟩
        rw [List.eq_nil_iff_forall_not_mem]
        intro i hi
        obtain ⟨hun, o, ho, _⟩ := mem_ready.1 hi
        have hi' : i < k := by rw [hks2]; exact (Array.getElem?_eq_some_iff.1 ho).1
        rw [hall i hi'] at hun; cases hun
      · have hl : listed = (Array.replicate k true) ++ (Array.replicate (ops.toArray.size - k) false) := by
          apply Array.ext
          · simp [inv.size]; simp at hltk; omega
          · intro i h1 h2
            by_cases hi : i < k
            · have := hall i hi
              simp [h1] at this
              rw [Array.getElem_append_left (by simpa using hi)]
              simpa using this
            · have h3 := inv.tail i (by omega) (by rw [inv.size] at h1; exact h1)
              simp [h1] at h3
              rw [Array.getElem_append_right (by simp; omega)]
              simpa using h3
        have hdl : (ops.drop k).length = ops.toArray.size - k := by simp
        rw [← hdl]
        exact wpAny_of_seq (ops.drop k) k listed a w (fun j => by simp) (by rw [hl, hdl]; exact hseq) hfin)
    (fun listed inv i hi hun t ht => by
      simp only [tailB, Bool.or_eq_true, Bool.and_eq_true, decide_eq_true_eq] at htailB
      rcases htailB with h | ⟨⟨⟨hltk, hs⟩, hc⟩, hseq⟩
      · intro hr
        obtain ⟨_, o, ho, _⟩ := mem_ready.1 hr
        have := (Array.getElem?_eq_some_iff.1 ho).1
        omega
      · exact tail_waits hs hc hltk inv _ i rfl hi hun t ht)
    k C ivS [] hp _ a { w with drawn := w.drawn + 1 } hleft inv0 ⟨hk.size, hk.defers, hk.has, hG.drawn _, fun i v _ hl => (by rw [getD_replicate_false] at hl; cases hl), fun i v hv => by cases hv⟩ ⟨fun i v hv => ⟨hlt' i (List.mem_append_left _ ((hkS i).1 ⟨v, hv⟩)), by
      obtain ⟨o, iv', h1, h2, h3⟩ := hsS i v hv
      exact ⟨o, iv', h1, fun j u hu => .inr (h2 j u (by rw [← look_lk]; exact hu)), h3⟩⟩, huS⟩ (fun i v hv => by cases hv)
    (fun i hi => ⟨hlt' i (List.mem_append_right _ hi), hun0 i (hlt' i (List.mem_append_right _ hi)), by
      cases hv : lk ivS i with
      | none => rfl
      | some v => exact absurd rfl (hSC i ((hkS i).1 ⟨v, hv⟩) i hi)⟩) hndC hlink
    (fun i hi _ => by
      have := mem_mem (List.all_eq_true.1 hcov i (List.mem_range.2 hi))
      rcases List.mem_append.1 this with h | h
      · exact .inl ((hkS i).2 h)
      · exact .inr h) hle0 (fun _ => HpLe.refl _) hX
  have e : k + (ops.toArray.size - k) = ops.toArray.size := by omega
  rw [e] at key
  exact key
end
set_option maxRecDepth 20000
section
variable {n : Nat} {w0 : World} {mu : List Nat} {l : Fm} {h0 hp hc : Hp} {Q : Exit → Fm → Hp → Prop} {all : Array Oper} {ivS iv ivE : Fm} {k t0 i d : Nat} {ds : List (Nat × Nat)} {r : List (Nat × Bool)} {Y : Fm → Fm → Hp → Prop} {op : Op} {ty : TypeId} {pos : String} {af : Array Edge} {v : Value}
/-- A region that draws its order: a row C of a chain (false) and what hangs on it (true), the others S. -/
theorem drawCX {id : Nat} {ops tl : List Oper} (k t0 : Nat) (S : List Nat) (C : List (Nat × Bool)) (h0 : Hp) (h : DS Tryz.prog n w0 mu ops.toArray ds l h0 hp t0 (fun ivS0 => DCX Tryz.prog n w0 mu ops.toArray ds l h0 hp t0 (fun ivS ivE hc => Ops Tryz.prog n w0 mu ops.toArray tl (headFm ds (ivE ++ ivS) ++ l) hc Q) C ivS0 [] hp) S [])
    (hle0 : HpLe h0 hp := by (exact clcntL)) (hds : dstTab ops 0 = ds := by (simp only [dstTab, Nat.reduceAdd, Nat.zero_add]; rfl)) (htl : ops.drop k = tl := by (simp only [List.drop_succ_cons, List.drop_zero, List.drop_nil]; rfl)) (hm : Tryz.prog.follows .mixedOrders = true := by kernel_rfl) (hB : drawCXB ops.toArray n k t0 S C = true := by decide +kernel) (hf : freshB l (dstsOf ops.toArray k) = true := by rfl) : St Tryz.prog n w0 mu (.region id ops.toArray true) l hp Q :=
  st_any hm (st_drawCX k t0 S C h0 hB hf hle0 hds (by rw [htl]; exact h))
theorem xNil (h : Y ivS ivE hc) : DCX Tryz.prog n w0 mu all ds l h0 hp t0 Y [] ivS ivE hc := h
/-- What one rule of chains says of the head of a row. -/
theorem xC (h : DCh Tryz.prog n w0 mu all ds l h0 ivS (fun ivE' hc' => DCX Tryz.prog n w0 mu all ds l h0 hp t0 Y r ivS ivE' hc') [i] ivE hc) : DCX Tryz.prog n w0 mu all ds l h0 hp t0 Y ((i, false) :: r) ivS ivE hc := by
  obtain ⟨o, ho, h⟩ := h
  refine ⟨o, ho, ?_⟩
  rcases h with ⟨h1, R, h2, h3⟩ | ⟨h1, h', h2, h3, h4⟩
  · exact .inl ⟨h1, R, h2, h3⟩
  · exact .inr (.inl ⟨h1, h', h2, h3, h4⟩)
/-- One that hangs on the chain. -/
theorem xD (h : DE3 Tryz.prog n w0 mu all ds l [] (fun iv2 => ∃ v, iv2 = (i, v) :: (ivE ++ ivS) ∧ DCX Tryz.prog n w0 mu all ds l h0 hp t0 Y r ((i, v) :: ivS) ivE hc) [i] (ivE ++ ivS)) : DCX Tryz.prog n w0 mu all ds l h0 hp t0 Y ((i, true) :: r) ivS ivE hc := by
  obtain ⟨o, v, ho, hy, v', e, h⟩ := h
  cases e
  exact ⟨o, v, ho, hy, h⟩
theorem xMove {x : Operand} (h : DCX Tryz.prog n w0 mu all ds l h0 hp t0 Y r ((i, v) :: ivS) ivE hc) (ho : all[i]? = some ⟨some d, .move x, ty, pos, af, none⟩ := by rfl) (hx : ev (depFm ds (ivE ++ ivS) af.toList ++ l) x = some v := by rfl) : DCX Tryz.prog n w0 mu all ds l h0 hp t0 Y ((i, true) :: r) ivS ivE hc := ⟨_, v, ho, r_move hx, h⟩
theorem xExtract {x : Operand} {j : Nat} {vs : Array Value} (h : DCX Tryz.prog n w0 mu all ds l h0 hp t0 Y r ((i, v) :: ivS) ivE hc) (ho : all[i]? = some ⟨some d, .extract x j, ty, pos, af, none⟩ := by rfl) (hx : ev (depFm ds (ivE ++ ivS) af.toList ++ l) x = some (.tuple vs) := by rfl) (hj : nth vs.toList j = some v := by rfl) : DCX Tryz.prog n w0 mu all ds l h0 hp t0 Y ((i, true) :: r) ivS ivE hc := ⟨_, v, ho, r_extract hx hj, h⟩
theorem xNilCheck {x : Operand} {p : Addr} (h : DCX Tryz.prog n w0 mu all ds l h0 hp t0 Y r ((i, .pointer (some p)) :: ivS) ivE hc) (ho : all[i]? = some ⟨some d, .nilCheck x, ty, pos, af, none⟩ := by rfl) (hx : ev (depFm ds (ivE ++ ivS) af.toList ++ l) x = some (.pointer (some p)) := by rfl) : DCX Tryz.prog n w0 mu all ds l h0 hp t0 Y ((i, true) :: r) ivS ivE hc := ⟨_, _, ho, r_nilCheck hx, h⟩
theorem xField {t : TypeId} {x : Operand} {k b off k' off' : Nat} {os : List Nat} (h : DCX Tryz.prog n w0 mu all ds l h0 hp t0 Y r ((i, .pointer (some ⟨b, off', none⟩)) :: ivS) ivE hc) (ho : all[i]? = some ⟨some d, .fieldAddr t x k, ty, pos, af, none⟩ := by rfl) (hx : ev (depFm ds (ivE ++ ivS) af.toList ++ l) x = some (.pointer (some ⟨b, off, none⟩)) := by rfl) (hfo : lk Tb.fo t = some os := by rfl) (hk : nth os k = some k' := by rfl) (he : off + k' = off' := by rfl) : DCX Tryz.prog n w0 mu all ds l h0 hp t0 Y ((i, true) :: r) ivS ivE hc := ⟨_, _, ho, r_field tb_ok hx hfo hk he, h⟩
end
section
variable {P : Program} {T : Tab} {n : Nat} {w0 : World} {mu : List Nat} {l : Fm} {hp : Hp} {ty : TypeId} {pos : String} {af : Array Edge} {Q : Exit → Fm → Hp → Prop} {all : Array Oper} {rest : List Oper}
theorem ec_appendN (ok : TabOk P T) {t d e sz by_ m c a o : Nat} {x y : Operand} {z : Value} {news : List Value} (hx : ev l x = some (.slice none 0 0)) (hy : ev l y = some (.slice (some ⟨a, o, none⟩) m c)) (ht : lk T.sl t = some (e, sz))
    (hz : lk T.zs e = some z) (hzs : z.cells.size = sz) (hb : lk T.eb e = some by_) (hm : 0 < m) (hl : news.length = m * sz) (hnews : NewsAt w0 mu hp a o news) (h63 : m ≤ 1048576) (h48 : m * by_ ≤ 281474976710656) : EoC P n w0 mu all l hp ⟨some d, .call { callee := .builtin .append, args := #[x, y], argTypes := #[t, t] }, ty, pos, af, none⟩ (fun v h' => ∃ g cap cur, Row g cap cur sz m news ∧ v = .slice (some ⟨g, 0, none⟩) m cap ∧ h' = ⟨g, cur, e⟩ :: hp) := by
  refine ⟨fun a _ => by simp [Region.wanted], fun ac w hk hG K Q' hK => ?_⟩
  obtain ⟨hu, hsz⟩ := ok.gsl ht
  have hbb := List.all_eq_true.1 ok.eb _ (lk_mem hb)
  simp only [beq_iff_eq] at hbb
  obtain ⟨i, hi, hiz, his, hib⟩ := info_of hsz hbb (ok.gzs hz)
  subst his hib
  have hr := run_append_nil (P := P) w t ty e i z hu hi hiz ⟨a, o, none⟩ m c news hl (fun j u hj => by rw [Addr.add_mid]; exact hnews w hG j u hj) hm (by omega) h48
  unfold Oper.wp execOp
  simp only [resolve, invoke, builtin, Sem.run_bind, Sem.run_pure, Result.andThen_ok, List.map_toArray, List.map_cons, List.map_nil, hk.ev hx, hk.ev hy, hr]
  have hrow := row_new (w := w) (z := z) (sz := i.size) (k := 0) (m := m) (old := 0) (e := e) (xs := []) (news := news) hzs (by simp) hl (by unfold maxLen; omega)
  simp only [Nat.zero_add, List.nil_append, Array.empty_append] at hrow
  have hG' := (hG.drawn (w.drawn + 1)).alloc (news.toArray ++ Builtin.zeroCells z.cells (grownCap w m 0 e - m)) e
  exact hK _ _ _ ⟨_, _, _, hrow, rfl, rfl⟩ hG'
/-- Append to a row of its own. -/
theorem ec_appendO (ok : TabOk P T) {t d e sz by_ k m c a o g cap : Nat} {cur : Array Value} {x y : Operand} {z : Value} {xs news : List Value} {hp' : Hp} (hx : ev l x = some (.slice (some ⟨g, 0, none⟩) k cap)) (hy : ev l y = some (.slice (some ⟨a, o, none⟩) m c)) (ht : lk T.sl t = some (e, sz))
    (hz : lk T.zs e = some z) (hzs : z.cells.size = sz) (hb : lk T.eb e = some by_) (hperm : (⟨g, cur, e⟩ :: hp').Perm hp) (hown : Row g cap cur sz k xs) (hl : news.length = m * sz) (hnews : NewsAt w0 mu hp a o news) (h1 : news.all (·.oneCell') = true) (h63 : k + m ≤ 1048576) (h48 : (k + m + (k + m) / 4 + 192) * by_ ≤ 281474976710656) : EoC P n w0 mu all l hp ⟨some d, .call { callee := .builtin .append, args := #[x, y], argTypes := #[t, t] }, ty, pos, af, none⟩ (fun v h' => ∃ g cap cur, Row g cap cur sz (k + m) (xs ++ news) ∧ v = .slice (some ⟨g, 0, none⟩) (k + m) cap ∧ h' = ⟨g, cur, e⟩ :: hp') := by
  refine ⟨fun a _ => by simp [Region.wanted], fun ac w hk hG K Q' hK => ?_⟩
  obtain ⟨hu, hsz⟩ := ok.gsl ht
  have hbb := List.all_eq_true.1 ok.eb _ (lk_mem hb)
  simp only [beq_iff_eq] at hbb
  obtain ⟨i, hi, hiz, his, hib⟩ := info_of hsz hbb (ok.gzs hz)
  subst his hib
  have hG' := hG.perm hperm
  have hg := hG'.here _ (List.mem_cons_self ..)
  have hn : ∀ j u, news[j]? = some u → w.cell? ((⟨a, o, none⟩ : Addr).add j) = some u := fun j u hj => by rw [Addr.add_mid]; exact hnews w hG j u hj
  by_cases hroom : k + m ≤ cap
  · have hfit : k * i.size + news.length ≤ cur.size := by rw [hl, hown.size, ← Nat.add_mul]; exact Nat.mul_le_mul_right _ hroom
    have hr := run_append_room (P := P) w t ty e i hu hi g k cap cur hg ⟨a, o, none⟩ m c news hl hn (fun u hu => List.all_eq_true.1 h1 u hu) hroom hfit
    unfold Oper.wp execOp
    simp only [resolve, invoke, builtin, Sem.run_bind, Sem.run_pure, Result.andThen_ok, List.map_toArray, List.map_cons, List.map_nil, hk.ev hx, hk.ev hy, hr]
    refine hK _ _ _ ⟨_, _, _, ⟨?_, hroom, hown.max, ?_, ?_⟩, rfl, rfl⟩ (hG'.row _)
    · rw [List.length_append, hown.len, hl, Nat.add_mul]
    · have := hown.size
      simp only [List.size_toArray, List.length_append, List.length_take, List.length_drop, Array.length_toList]
      omega
    · rw [hown.take, show (k + m) * i.size = (xs ++ news).length by rw [List.length_append, hown.len, hl, Nat.add_mul]]
      exact List.take_left
  · have holds : ∀ j u, xs[j]? = some u → w.cell? ((⟨g, 0, none⟩ : Addr).add j) = some u := by
      intro j u hj
      rw [Addr.add_mid, cell_of_block hg]
      rw [← hown.take, List.getElem?_take] at hj
      split at hj
      · simpa using hj
      · cases hj
    have hr := run_append_grow (P := P) w t ty e i z hu hi hiz ⟨g, 0, none⟩ k cap xs hown.len holds ⟨a, o, none⟩ m c news hl hn (by omega) (by omega) (growslice_fits_wide (by omega) h48)
    unfold Oper.wp execOp
    simp only [resolve, invoke, builtin, Sem.run_bind, Sem.run_pure, Result.andThen_ok, List.map_toArray, List.map_cons, List.map_nil, hk.ev hx, hk.ev hy, hr]
    have hG2 := ((hG'.sub (hp' := hp') (List.sublist_cons_self _ _)).drawn (w.drawn + 1)).alloc (xs.toArray ++ news.toArray ++ Builtin.zeroCells z.cells (grownCap w (k + m) cap e - (k + m))) e
    have hrow := row_new (w := w) (k := k) (m := m) (old := cap) (e := e) hzs hown.len hl (by unfold maxLen; omega)
    exact hK _ _ _ ⟨_, _, _, hrow, rfl, rfl⟩ hG2
end
theorem ec_perm {P : Program} {n : Nat} {w0 : World} {mu : List Nat} {all : Array Oper} {l : Fm} {hp : Hp} {o : Oper} {R R' : RT} (h : EoC P n w0 mu all l hp o R) (hr : ∀ v h', R v h' → ∃ h2, R' v h2 ∧ h2.Perm h') : EoC P n w0 mu all l hp o R' :=
  ⟨h.1, fun a w hk hG K Q hK => h.2 a w hk hG K Q fun v h' w' hR hG' => by
    obtain ⟨h2, h3, h4⟩ := hr v h' hR
    exact hK v h2 w' h3 (hG'.perm h4)⟩
section
variable {n : Nat} {w0 : World} {mu : List Nat} {l : Fm} {h0 hp hc : Hp} {all : Array Oper} {ds : List (Nat × Nat)} {t0 : Nat} {ivS ivE : Fm} {Y : Fm → Fm → Hp → Prop} {i d : Nat} {r : List (Nat × Bool)} {ty : TypeId} {pos : String} {af : Array Edge}
/-- Append, in its place or not, in a chain. -/
theorem xApp {t e sz by_ cc a : Nat} {x y : Operand} {z v : Value} {c : List Value} {ha hp' : Hp} {xs : List (List Value)} (hA : Acc e sz v ha xs) (hnews : NewsAt w0 mu hc a 0 c) (h63 : xs.length < 1000000) (hperm : (ha ++ hp').Perm hc) (hle : HpLe h0 hp')
    (h : ∀ v' ha', Acc e sz v' ha' (xs ++ [c]) → DCX Tryz.prog n w0 mu all ds l h0 hp t0 Y r ivS ((i, v') :: ivE) (ha' ++ hp')) (ho : all[i]? = some ⟨some d, .call { callee := .builtin .append, args := #[x, y], argTypes := #[t, t] }, ty, pos, af, none⟩ := by rfl) (hit : (i = t0 ∨ Region.waitsFor .any all i t0 = true) ∨ HpLe hp hp' := by exact .inl (.inl rfl))
    (hx : ev (depFm ds (ivE ++ ivS) af.toList ++ l) x = some v := by rfl) (hy : ev (depFm ds (ivE ++ ivS) af.toList ++ l) y = some (.slice (some ⟨a, 0, none⟩) 1 cc) := by rfl) (ht : lk Tb.sl t = some (e, sz) := by rfl)
    (hz : lk Tb.zs e = some z := by rfl) (hzs : z.cells.size = sz := by rfl) (hb : lk Tb.eb e = some by_ := by rfl) (hby : Nat.ble by_ 4096 = true := by rfl) (hl : c.length = sz := by rfl) (h1 : c.all (·.oneCell') = true := by rfl) : DCX Tryz.prog n w0 mu all ds l h0 hp t0 Y ((i, false) :: r) ivS ivE hc := by
  have hby' : by_ ≤ 4096 := Nat.le_of_ble_eq_true hby
  have hall : ∀ c' ∈ xs ++ [c], c'.length = sz ∧ c'.all (·.oneCell') = true := by
    intro c' hc'
    rcases List.mem_append.1 hc' with hc' | hc'
    · exact hA.1 c' hc'
    · obtain rfl := List.mem_singleton.1 hc'; exact ⟨hl, h1⟩
  rcases hA.2 with ⟨rfl, rfl, rfl⟩ | ⟨hne, g, cap, cur, rfl, rfl, hrow⟩
  · refine ⟨_, ho, .inr (.inr ⟨rfl, fun v h' => ∃ g cap cur, Row g cap cur sz 1 c ∧ v = .slice (some ⟨g, 0, none⟩) 1 cap ∧ h' = ⟨g, cur, e⟩ :: hp', ec_perm (ec_appendN tb_ok hx hy ht hz hzs hb (by omega) (by rw [hl, Nat.one_mul]) hnews (by omega) (by omega)) ?_, ?_⟩)⟩
    · rintro _ _ ⟨g, cap, cur, hr, rfl, rfl⟩
      exact ⟨_, ⟨g, cap, cur, hr, rfl, rfl⟩, (hperm.cons _ : (⟨g, cur, e⟩ :: ([] ++ hp')).Perm (⟨g, cur, e⟩ :: hc))⟩
    rintro _ _ ⟨g, cap, cur, hr, rfl, rfl⟩
    refine ⟨?_, hit.imp id fun h2 => hpLe_cnt fun b => ?_, ?_⟩
    · refine hpLe_cnt fun b => ?_
      have := hle.cnt b
      rw [cntB_cons]
      omega
    · have := h2.cnt b
      show _ ≤ cntB b (⟨g, cur, e⟩ :: hp')
      rw [cntB_cons]
      omega
    · exact h (.slice (some ⟨g, 0, none⟩) 1 cap) [⟨g, cur, e⟩] ⟨hall, .inr ⟨by simp, g, cap, cur, rfl, rfl, by simpa using hr⟩⟩
  · refine ⟨_, ho, .inr (.inr ⟨rfl, _, ec_appendO tb_ok hx hy ht hz hzs hb hperm hrow (by rw [hl, Nat.one_mul]) hnews h1 (by omega) ?_, ?_⟩)⟩
    · have h2 : (xs.length + 1 + (xs.length + 1) / 4 + 192) ≤ 2000000 := by omega
      calc _ ≤ 2000000 * by_ := Nat.mul_le_mul_right _ h2
        _ ≤ 2000000 * 4096 := Nat.mul_le_mul_left _ hby'
        _ ≤ _ := by decide
    rintro _ _ ⟨g, cap, cur, hr, rfl, rfl⟩
    refine ⟨?_, hit.imp id fun h2 => hpLe_cnt fun b => ?_, ?_⟩
    · refine hpLe_cnt fun b => ?_
      have := hle.cnt b
      show _ ≤ cntB b (⟨g, cur, e⟩ :: hp')
      rw [cntB_cons]
      omega
    · have := h2.cnt b
      show _ ≤ cntB b (⟨g, cur, e⟩ :: hp')
      rw [cntB_cons]
      omega
    · exact h (.slice (some ⟨g, 0, none⟩) (xs.length + 1) cap) [⟨g, cur, e⟩] ⟨hall, .inr ⟨by simp, g, cap, cur, by simp, rfl, by simpa using hr⟩⟩
end
end Go.Proofs.YtiaelhhmlbfkmaaGreat
