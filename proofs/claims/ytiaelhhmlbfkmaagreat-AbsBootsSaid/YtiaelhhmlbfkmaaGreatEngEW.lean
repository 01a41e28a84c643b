/- The engine: a drawn region: makers of memory, one of which writes known blocks (i0), what hangs on them, a chain behind all. No program in sight. -/
import Derived.Test.YtiaelhhmlbfkmaaGreatEng2
import Derived.Test.YtiaelhhmlbfkmaaGreatRun
namespace Go.Proofs.YtiaelhhmlbfkmaaGreat
open Go.RowKit
set_option linter.unusedVariables false
set_option linter.unusedSimpArgs false
theorem hyG_perm {P : Program} {n : Nat} {w0 : World} {mu : List Nat} {all : Array Oper} {lf : Fm} {hp hp' : Hp} {o : Oper} {v : Value} (h : HyG P n w0 mu all lf hp o v) (hp2 : hp.Perm hp') : HyG P n w0 mu all lf hp' o v := by
  have go : ∀ {u : Value}, Hy P n w0 mu lf hp o u → Hy P n w0 mu lf hp' o u := fun hy a w hk hG K Q hK => hy a w hk (hG.perm hp2) K Q fun w' hG' => hK w' (hG'.perm hp2.symm)
  unfold HyG at h ⊢
  cases hg : o.guard with
  | none => rw [hg] at h; exact go h
  | some jw =>
    obtain ⟨j, want⟩ := jw
    rw [hg] at h
    obtain ⟨dj, c0, b, u, h1, h2, h3, h4, h5⟩ := h
    exact ⟨dj, c0, b, u, h1, h2, h3, fun a b => go (h4 a b), h5⟩
/-- An operation that writes the blocks hi: of what it yields R is known. -/
def EoW (P : Program) (n : Nat) (w0 : World) (mu : List Nat) (all : Array Oper) (lf : Fm) (hi rest : Hp) (o : Oper) (R : RT) : Prop :=
  (∀ a, Knows n lf a → Region.wanted o (yielded all a.tmps) = true) ∧ ∀ a w hx, Knows n lf a → Good w0 mu (hx ++ (hi ++ rest)) w → ∀ (K : Act → World → Prop) (Q : Exit → Act → World → Prop), (∀ v hn w', R v hn → Good w0 mu (hn ++ (hx ++ rest)) w' → K (a.put o.dst v) w') → o.wp P a w K Q
def hbW (i0 : Nat) (hi rest : Hp) (listed : Array Bool) : Hp := bif listed.getD i0 false then rest else hi ++ rest
def DE2W (P : Program) (n : Nat) (w0 : World) (mu : List Nat) (all : Array Oper) (ds : List (Nat × Nat)) (l : Fm) (i0 : Nat) (hi rest : Hp) (iv : Fm) (X : List (Nat × RT) → Prop) : List Nat → List (Nat × RT) → Prop
  | [], Rs => X Rs
  | i :: E, Rs => ∃ o R, all[i]? = some o ∧ ((i ≠ i0 → EoR P n w0 mu all (depFm ds iv o.after.toList ++ l) rest o R) ∧ (i = i0 → EoW P n w0 mu all (depFm ds iv o.after.toList ++ l) hi rest o R)) ∧ (∃ v hn, R v hn) ∧ DE2W P n w0 mu all ds l i0 hi rest iv X E ((i, R) :: Rs)
section
variable {P : Program} {n : Nat} {w0 : World} {mu : List Nat} {l : Fm} {hi rest : Hp} {i0 : Nat} {Q : Exit → Fm → Hp → Prop} {all : Array Oper} {kd : Nat → Kd} {val : Ch → Nat → Value} {k : Nat} {ds : List (Nat × Nat)}
theorem de2w_mono {iv : Fm} {X Y : List (Nat × RT) → Prop} : ∀ (E : List Nat) (Rs : List (Nat × RT)) (hXY : ∀ Rs', Rs'.map (·.1) = E.reverse ++ Rs.map (·.1) → X Rs' → Y Rs'), DE2W P n w0 mu all ds l i0 hi rest iv X E Rs → DE2W P n w0 mu all ds l i0 hi rest iv Y E Rs := by
  intro E
  induction E with
  | nil => intro Rs hXY h; exact hXY Rs (by simp) h
  | cons i E ih =>
    rintro Rs hXY ⟨o, R, ho, hy, hn, h⟩
    exact ⟨o, R, ho, hy, hn, ih _ (fun Rs' e => hXY Rs' (by rw [e]; simp)) h⟩
theorem de2w_get {iv : Fm} {X : List (Nat × RT) → Prop} : ∀ (E : List Nat) (Rs : List (Nat × RT)), E.Nodup → (∀ i ∈ E, lk Rs i = none) → DE2W P n w0 mu all ds l i0 hi rest iv X E Rs →
    (∀ i R, (i, R) ∈ Rs → lk Rs i = some R ∧ ∃ o, all[i]? = some o ∧ ((i ≠ i0 → EoR P n w0 mu all (depFm ds iv o.after.toList ++ l) rest o R) ∧ (i = i0 → EoW P n w0 mu all (depFm ds iv o.after.toList ++ l) hi rest o R)) ∧ ∃ v hn, R v hn) →
    ∃ RE, X RE ∧ (∀ i, (∃ R, lk RE i = some R) ↔ i ∈ E ∨ ∃ R, lk Rs i = some R) ∧ ∀ i R, (i, R) ∈ RE → lk RE i = some R ∧ ∃ o, all[i]? = some o ∧ ((i ≠ i0 → EoR P n w0 mu all (depFm ds iv o.after.toList ++ l) rest o R) ∧ (i = i0 → EoW P n w0 mu all (depFm ds iv o.after.toList ++ l) hi rest o R)) ∧ ∃ v hn, R v hn := by
  intro E
  induction E with
  | nil => intro Rs _ _ h hs; exact ⟨Rs, h, fun i => by simp, hs⟩
  | cons i E ih =>
    rintro Rs hnd hno ⟨o, R, ho, hy, hinh, h⟩ hs
    rw [List.nodup_cons] at hnd
    have hi := hno i (List.mem_cons_self ..)
    obtain ⟨RE, hX, hk, hs2⟩ := ih ((i, R) :: Rs) hnd.2 (fun j hj => by rw [lk_cons, if_neg (by rintro rfl; exact hnd.1 hj)]; exact hno j (List.mem_cons_of_mem _ hj)) h (fun j R' hj => by
      rcases List.mem_cons.1 hj with hj | hj
      · cases hj
        exact ⟨by rw [lk_cons, if_pos rfl], o, ho, hy, hinh⟩
      · obtain ⟨h1, h2⟩ := hs j R' hj
        refine ⟨?_, h2⟩
        rw [lk_cons]
        by_cases hij : i = j
        · subst hij; rw [hi] at h1; cases h1
        · rw [if_neg hij]; exact h1)
    refine ⟨RE, hX, fun j => ?_, hs2⟩
    rw [hk, List.mem_cons, lk_cons]
    by_cases hij : i = j
    · subst hij; simp
    · rw [if_neg hij]; simp [Ne.symm hij]
theorem headE_runW {ds : List (Nat × Nat)} (hds : ∀ k d, lk ds k = some d → dstAt all k = some d) {g : Nat} {Q' : Exit → Act → World → Prop} (hk : k ≤ all.size) (hd : dstB all k n = true) (hf : freshB l (dstsOf all k) = true) (hback : backB all = true)
    (hi0k : i0 < k) (hi0E : isE (kd i0) = true)
    (hS : ∀ i o v, i < k → all[i]? = some o → kd i = .s v → (∀ c, val c i = v) ∧ ∃ iv', (∀ j u, look iv' j = some u → j < k ∧ ∀ c, val c j = u) ∧ ∀ hx, HyG P n w0 mu all (depFm ds iv' o.after.toList ++ l) (hx ++ (hi ++ rest)) o v)
    (hAnc : ∀ listed, HeadInv .any all k listed → listed.getD i0 false = true → ∀ i v, i < k → kd i = .s v → listed.getD i false = true)
    (hE : ∀ i o R, i < k → all[i]? = some o → kd i = .e R → (∀ c, val c i = (c i).1) ∧ ∃ iv', (∀ j u, look iv' j = some u → j < k ∧ ∀ c, val c j = u) ∧ (i ≠ i0 → EoR P n w0 mu all (depFm ds iv' o.after.toList ++ l) rest o R) ∧ (i = i0 → EoW P n w0 mu all (depFm ds iv' o.after.toList ++ l) hi rest o R))
    (hD : ∀ c, Valid kd k c → ∀ i o, i < k → all[i]? = some o → kd i = .d → ∃ iv', (∀ j u, look iv' j = some u → j < k ∧ val c j = u) ∧ HyR P n w0 mu (depFm ds iv' o.after.toList ++ l) [] o (val c i))
    (htail : ∀ f c listed, leftOf k listed = f → HeadInv .any all k listed → (∀ i, i < k → isE (kd i) = true → listed.getD i true = true) → ∀ a w, MidE n w0 mu all l rest kd val k c listed a w → wpAny P .any all Q' (f + g) listed a w)
    (hwait : ∀ listed, HeadInv .any all k listed → ∀ i, i < k → isE (kd i) = true → listed.getD i true = false → ∀ t, k ≤ t → t ∉ Region.ready .any all listed) :
    ∀ f c listed a w, leftOf k listed = f → HeadInv .any all k listed → MidE n w0 mu all l (hbW i0 hi rest listed) kd val k c listed a w → wpAny P .any all Q' (f + g) listed a w := by
  intro f
  induction f with
  | zero =>
    intro c listed a w hlf inv hm
    have hall0 : ∀ i, i < k → listed.getD i true = true := fun i hi => by
      cases hc : listed.getD i true with
      | true => rfl
      | false =>
      exfalso
      have : i ∈ (List.range k).filter fun i => !listed.getD i true := List.mem_filter.2 ⟨List.mem_range.2 hi, by simp only [hc, Bool.not_false]⟩
      have h2 := List.length_pos_of_mem this
      unfold leftOf at hlf
      omega
    have hl0 : listed.getD i0 false = true := by
      cases hc : listed.getD i0 false with
      | true => rfl
      | false => have h1 := hall0 i0 hi0k; rw [getD_in (by rw [inv.size]; omega) hc] at h1; cases h1
    rw [hbW, hl0] at hm
    exact htail 0 c listed hlf inv (fun i hi _ => hall0 i hi) a w hm
  | succ f ih =>
    intro c listed a w hlf inv hm
    by_cases hallE : ∀ i, i < k → isE (kd i) = true → listed.getD i true = true
    · have hl0 : listed.getD i0 false = true := by
        cases hc : listed.getD i0 false with
        | true => rfl
        | false => have h1 := hallE i0 hi0k hi0E; rw [getD_in (by rw [inv.size]; omega) hc] at h1; cases h1
      rw [hbW, hl0] at hm
      exact htail (f + 1) c listed hlf inv hallE a w hm
    obtain ⟨j0, hj0k, hj0e, hj0⟩ : ∃ i, i < k ∧ isE (kd i) = true ∧ listed.getD i true = false := by
      refine Classical.byContradiction fun hno => hallE fun i hi he => ?_
      cases hc : listed.getD i true with
      | true => rfl
      | false => exact absurd ⟨i, hi, he, hc⟩ hno
    rw [show f + 1 + g = (f + g) + 1 by omega]
    refine ⟨fun hnil => ?_, fun i hri => ?_⟩
    · exfalso
      obtain ⟨i, ⟨hik, hil⟩, hmin⟩ := exists_least (p := fun i => i < k ∧ listed.getD i true = false) ⟨j0, hj0k, hj0⟩
      have hr : i ∈ Region.ready .any all listed := by
        rw [mem_ready]
        have hs : i < all.size := by omega
        refine ⟨hil, all[i], by simp [hs], fun e he hb => ?_⟩
        have hb2 := List.all_eq_true.1 hback i (List.mem_range.2 hs)
        simp only [Array.getElem?_eq_getElem hs] at hb2
        have hb3 := (Array.all_eq_true_iff_forall_mem.1 hb2) e he
        simp only [hb, Bool.not_true, Bool.false_or, Nat.blt_eq] at hb3
        cases hc : listed.getD e.on false with
        | true => rfl
        | false =>
          have h5 := hmin e.on ⟨by omega, getD_in (by rw [inv.size]; omega) hc⟩
          omega
      rw [hnil] at hr; cases hr
    · have hik : i < k := by
        rcases Nat.lt_or_ge i k with h | h
        · exact h
        · exact absurd hri (hwait listed inv j0 hj0k hj0e hj0 i h)
      obtain ⟨hun, o, ho, hall⟩ := mem_ready.1 hri
      have hsz : i < listed.size := by rw [inv.size]; omega
      have hself : ∀ j, j < k → listed.getD j false = true → isE (kd j) = true → c j = c j := fun _ _ _ _ => rfl
      have hgo : ∀ c2 a' w', MidE n w0 mu all l (hbW i0 hi rest (listed.setIfInBounds i true)) kd val k c2 (listed.setIfInBounds i true) a' w' → wpAny P .any all Q' (f + g) (listed.setIfInBounds i true) a' w' := fun c2 a' w' h =>
        ih c2 _ _ _ (by have := left_set hik (by rw [inv.size]; omega) hun; omega) (inv.set hri hik) h
      have hweak : Good w0 mu [] w := hm.good.sub (List.nil_sublist _)
      have hsame : i ≠ i0 → hbW i0 hi rest (listed.setIfInBounds i true) = hbW i0 hi rest listed := fun hne => by rw [hbW, hbW, getD_set_ne false hne]
      have hrestle : ∃ x, hbW i0 hi rest listed = x ++ rest := by
        rw [hbW]; cases listed.getD i0 false with
        | true => exact ⟨[], rfl⟩
        | false => exact ⟨hi, rfl⟩
      unfold wpOp
      simp only [ho]
      cases hkd : kd i with
      | s v =>
        obtain ⟨hvc, iv', hiv, hy⟩ := hS i o v hik ho hkd
        have hkn := depFm_lookE (i := i) hds hm hm.valid hself (fun j u hu => ⟨(hiv j u hu).1, (hiv j u hu).2 c⟩) hall
        have hE0 : isE (kd i) = false := by rw [hkd]; rfl
        have hne : i ≠ i0 := fun e => by rw [e, hi0E] at hE0; cases hE0
        rw [hsame hne] at hgo
        have hnext : ∀ w', Good w0 mu (blks kd c listed k ++ hbW i0 hi rest listed) w' → wpAny P .any all Q' (f + g) (listed.setIfInBounds i true) (a.put o.dst v) w' := fun w' hG' =>
          hgo c _ _ (mide_step hm ho hik hun hsz hd hf hm.valid (fun _ _ => rfl) (by rw [blks_same hE0]; exact hG') (fun c' _ _ => hvc c'))
        obtain ⟨hx, h3, hpx⟩ : ∃ hx, HyG P n w0 mu all (depFm ds iv' o.after.toList ++ l) hx o v ∧ hx = blks kd c listed k ++ hbW i0 hi rest listed := by
          have ht0 : listed.getD i0 false = false := by
            cases hc : listed.getD i0 false with
            | false => rfl
            | true => have := hAnc listed inv hc i v hik hkd; rw [getD_both hun] at this; cases this
          exact ⟨_, hy (blks kd c listed k), by rw [hbW, ht0]; rfl⟩
        subst hpx
        unfold HyG at h3
        cases hg : o.guard with
        | none =>
          rw [hg] at h3
          rw [if_pos (by simp [Region.wanted, hg])]
          exact .inl (h3 a w hkn hm.good _ _ hnext)
        | some jw =>
          obtain ⟨j, want⟩ := jw
          rw [hg] at h3
          obtain ⟨dj, c0, b, u, hj, hb, hdj, hy, hvv⟩ := h3
          have hw := wanted_of hkn hg hj hb hdj
          cases hc : (c0 && wnt b want) with
          | true =>
            rw [hc] at hw hvv
            rw [if_pos hw]
            rw [Bool.and_eq_true] at hc
            rw [show v = u from hvv] at hnext
            exact .inl (hy hc.1 hc.2 a w hkn hm.good _ _ hnext)
          | false =>
            rw [hc] at hw hvv
            rw [if_neg (by rw [hw]; decide)]
            rw [show v = undef from hvv] at hnext
            exact hnext w hm.good
      | e R =>
        obtain ⟨hvc, iv', hiv, hEr, hEw⟩ := hE i o R hik ho hkd
        have hkn := depFm_lookE (i := i) hds hm hm.valid hself (fun j u hu => ⟨(hiv j u hu).1, (hiv j u hu).2 c⟩) hall
        have hfin : ∀ {hb : Hp} (hmb : MidE n w0 mu all l hb kd val k c listed a w) (v : Value) (hn : Hp) (w' : World), R v hn → Good w0 mu (hn ++ (blks kd c listed k ++ hb)) w' → MidE n w0 mu all l hb kd val k (fun t => if t = i then (v, hn) else c t) (listed.setIfInBounds i true) (a.put o.dst v) w' := fun {hb} hmb v hn w' hR hG' => by
          refine mide_step hmb ho hik hun hsz hd hf ?_ (fun j hj => by simp [hj]) ?_ ?_
          · intro j hj R' hR'
            by_cases hji : j = i
            · subst hji
              rw [hkd] at hR'
              cases hR'
              simpa using hR
            · simp only [hji, if_false]
              exact hm.valid j hj R' hR'
          · refine hG'.perm ?_
            rw [← List.append_assoc]
            exact (blks_set (by rw [hkd]; rfl) hun hsz k hik).symm.append_right _
          · intro c' hc' hag
            rw [hvc c', hag i hik (by simp [hsz]) (by rw [hkd]; rfl)]
            simp
        by_cases hne : i = i0
        · obtain ⟨hg, hy⟩ := hEw hne
          have hl0 : listed.getD i0 false = false := by rw [← hne]; exact getD_both hun
          have hb0 : hbW i0 hi rest listed = hi ++ rest := by rw [hbW, hl0]; rfl
          have hb1 : hbW i0 hi rest (listed.setIfInBounds i true) = rest := by
            rw [hbW, ← hne, show (listed.setIfInBounds i true).getD i false = true by simp [hsz]]; rfl
          rw [hb1] at hgo
          have hgd := hm.good
          rw [hb0] at hgd
          have hmr : MidE n w0 mu all l rest kd val k c listed a w := ⟨hm.size, hm.defers, hm.has, hm.valid, hgd.sub (List.Sublist.append (List.Sublist.refl _) (List.sublist_append_right _ _)), hm.done⟩
          rw [if_pos (hg _ hkn)]
          exact .inl (hy a w _ hkn hgd _ _ fun v hn w' hR hG' => hgo _ _ _ (hfin hmr v hn w' hR hG'))
        · obtain ⟨hg, hy⟩ := hEr hne
          rw [hsame hne] at hgo
          obtain ⟨x, hxe⟩ := hrestle
          rw [if_pos (hg _ hkn)]
          have hgd := hm.good
          rw [hxe, ← List.append_assoc] at hgd
          exact .inl (hy a w _ hkn hgd _ _ fun v hn w' hR hG' => hgo _ _ _ (hfin hm v hn w' hR (by rw [hxe]; simpa only [List.append_assoc] using hG')))
      | d =>
        obtain ⟨iv', hiv, hg, hy⟩ := hD c hm.valid i o hik ho hkd
        have hE0 : isE (kd i) = false := by rw [hkd]; rfl
        have hne : i ≠ i0 := fun e => by rw [e, hi0E] at hE0; cases hE0
        rw [hsame hne] at hgo
        have hkn := depFm_lookE (i := i) hds hm hm.valid hself hiv hall
        have hrun := hy a w hkn hweak
        rw [if_pos (by simp [Region.wanted, hg])]
        refine .inl ?_
        unfold Oper.wp
        rw [hrun]
        refine hgo c _ _ (mide_step hm ho hik hun hsz hd hf hm.valid (fun _ _ => rfl) (by rw [blks_same hE0]; exact hm.good) (fun c' hc' hag => ?_))
        obtain ⟨iv2, hiv2, hg2, hy2⟩ := hD c' hc' i o hik ho hkd
        have hag' : ∀ j, j < k → listed.getD j false = true → isE (kd j) = true → c' j = c j := fun j hj hl he => hag j hj (getD_set_true hl) he
        have hrun2 := hy2 a w (depFm_lookE (i := i) hds hm hc' hag' hiv2 hall) hweak
        rw [hrun] at hrun2
        simp only [Result.ok.injEq, Next.value.injEq, and_true] at hrun2
        exact hrun2.symm
/-- Each of S is waited for by i0, through others of S. -/
def ancLB (all : Array Oper) (i0 : Nat) (S : List Nat) : Bool := S.all fun i => Region.waitsFor .any all i0 i || S.any fun j => Nat.blt i j && Region.waitsFor .any all j i
theorem ancL_ok {S : List Nat} {listed : Array Bool} (h : ancLB all i0 S = true) (inv : HeadInv .any all k listed) (h0 : listed.getD i0 false = true) : ∀ i ∈ S, listed.getD i false = true := by
  have go : ∀ d i, S.foldr max 0 < i + d → i ∈ S → listed.getD i false = true := by
    intro d
    induction d with
    | zero =>
      intro i hlt hi
      exfalso
      have : ∀ (L : List Nat), i ∈ L → i ≤ L.foldr max 0 := by
        intro L
        induction L with
        | nil => intro h; cases h
        | cons x r ih =>
          intro h
          rw [List.foldr_cons]
          rcases List.mem_cons.1 h with rfl | h
          · exact Nat.le_max_left ..
          · exact Nat.le_trans (ih h) (Nat.le_max_right ..)
      have := this S hi
      omega
    | succ d ih =>
      intro i hlt hi
      have h1 := List.all_eq_true.1 h i hi
      rw [Bool.or_eq_true] at h1
      rcases h1 with h1 | h1
      · obtain ⟨oj, h6, e, he, hb, heq⟩ := Region.waitsFor_spec h1
        rw [← heq]
        exact inv.closed i0 oj h6 h0 e he hb
      · obtain ⟨j, hj, h2⟩ := List.any_eq_true.1 h1
        rw [Bool.and_eq_true] at h2
        have hij : i < j := by simpa using h2.1
        have h3 := ih j (by omega) hj
        obtain ⟨oj, h6, e, he, hb, heq⟩ := Region.waitsFor_spec h2.2
        rw [← heq]
        exact inv.closed j oj h6 h3 e he hb
  exact fun i hi => go (S.foldr max 0 + 1) i (by omega) hi
def drawEWB (ops : Array Oper) (n k i0 : Nat) (S E D D2 C : List Nat) : Bool :=
  match C with
  | [] => false
  | t0 :: _ => (mem E i0 && ancLB ops i0 S) && (decide (k ≤ ops.size) && dstB ops k n && dstKB ops ops.size n && backB ops && coverB ops.size (S ++ E ++ D ++ D2) C && linkB ops C && (S.all fun j => Region.waitsFor .any ops t0 j) && (E.all fun j => Region.waitsFor .any ops t0 j) && (D2 ++ C).all (fun j => Nat.ble k j) &&
    ((List.range ops.size).all fun i => (dstAt ops i).isSome || Nat.beq i t0 || Region.waitsFor .any ops i t0) &&
    ((List.range ops.size).all fun i => Nat.blt i k || (E.all fun j => Region.waitsFor .any ops i j) || (List.range ops.size).any fun j => Nat.ble k j && Region.waitsFor .any ops i j))
end
section
variable {P : Program} {n : Nat} {w0 : World} {mu : List Nat} {l : Fm} {hp : Hp} {Q : Exit → Fm → Hp → Prop} {ds : List (Nat × Nat)}
theorem st_drawEW0 {ops : List Oper} (k i0 : Nat) (hi rest : Hp) (S E D D2 C : List Nat) (hB : drawEWB ops.toArray n k i0 S E D D2 C = true) (hperm : (hi ++ rest).Perm hp) (hf : freshB l (dstsOf ops.toArray ops.toArray.size) = true) (hf1 : freshB l (dstsOf ops.toArray k) = true) (hsp : splitB k S E D = true) (hds : dstTab ops 0 = ds)
    (h : DE1 P n w0 mu ops.toArray ds l hp (fun ivS => DE2W P n w0 mu ops.toArray ds l i0 hi rest ivS (fun Rs => ∀ c, AllR c Rs → DE3 P n w0 mu ops.toArray ds l [] (fun iv1 => DE3 P n w0 mu ops.toArray ds l [] (fun iv2 => DCh P n w0 mu ops.toArray ds l [] iv2 (fun ivE hc => Ops P n w0 mu ops.toArray [] (headFm ds (ivE ++ iv2) ++ l) hc Q) C [] (blE E c k ++ rest)) D2 iv1) D (chs c Rs ++ ivS)) E []) S []) : StAny P n w0 mu ops.toArray l hp Q := by
  intro a w hk hG
  replace hG := hG.perm hperm
  simp only [splitB, Bool.and_eq_true, decide_eq_true_eq] at hsp
  obtain ⟨⟨⟨_, hnd⟩, hlt⟩, hcov⟩ := hsp
  have hlt' : ∀ i ∈ S ++ E ++ D, i < k := fun i hi => by have := List.all_eq_true.1 hlt i hi; simpa using this
  have hcov' : ∀ i, i < k → i ∈ S ∨ i ∈ E ∨ i ∈ D := fun i hi => by
    have := mem_mem (List.all_eq_true.1 hcov i (List.mem_range.2 hi))
    simpa [or_assoc] using this
  rw [List.append_assoc, List.nodup_append] at hnd
  obtain ⟨hndS, hndED, hSx⟩ := hnd
  rw [List.nodup_append] at hndED
  obtain ⟨hndE, hndD, hEx⟩ := hndED
  obtain ⟨ivS, h2, huS, hkS, hsS⟩ := de1_get S [] hndS (fun _ _ => rfl) (fun _ _ h => by cases h) h (fun i v hv => by cases hv)
  obtain ⟨Rs, h3, hkE, hsE⟩ := de2w_get E [] hndE (fun _ _ => rfl) h2 (fun i R hR => by cases hR)
  simp only [lk, reduceCtorEq, exists_false, or_false] at hkS hkE
  have hES : ∀ i R, lk Rs i = some R → lk ivS i = none := fun i R hR => by
    cases hv : lk ivS i with
    | none => rfl
    | some v => exact absurd rfl (hSx i ((hkS i).1 ⟨v, hv⟩) i (List.mem_append_left _ ((hkE i).1 ⟨R, hR⟩)))
  let kd : Nat → Kd := fun i => match lk Rs i with | some R => .e R | none => match lk ivS i with | some v => .s v | none => .d
  have hkdE : ∀ i R, kd i = .e R ↔ lk Rs i = some R := fun i R => by
    show (match lk Rs i with | some R => Kd.e R | none => match lk ivS i with | some v => .s v | none => .d) = _ ↔ _
    cases lk Rs i with
    | some R' => simp
    | none => cases lk ivS i <;> simp
  have hkdS : ∀ i v, kd i = .s v → lk Rs i = none ∧ lk ivS i = some v := fun i v => by
    show (match lk Rs i with | some R => Kd.e R | none => match lk ivS i with | some v => .s v | none => .d) = _ → _
    cases lk Rs i with
    | some R' => simp
    | none => cases lk ivS i <;> simp
  have hkdD : ∀ i, kd i = .d → lk Rs i = none ∧ lk ivS i = none := fun i => by
    show (match lk Rs i with | some R => Kd.e R | none => match lk ivS i with | some v => .s v | none => .d) = _ → _
    cases lk Rs i with
    | some R' => simp
    | none => cases lk ivS i <;> simp
  have hlkm : ∀ i R, lk Rs i = some R → (i, R) ∈ Rs := fun i R h => lk_mem h
  have hvalid : ∀ c, Valid kd k c → AllR c Rs := fun c hc => allR_of Rs fun p hp => by
    obtain ⟨i, R⟩ := p
    have h1 := (hsE i R hp).1
    exact hc i (hlt' i (List.mem_append_left _ (List.mem_append_right _ ((hkE i).1 ⟨R, h1⟩)))) R ((hkdE i R).2 h1)
  have hex : ∀ c, Valid kd k c → ∃ ivD, DE3 P n w0 mu ops.toArray ds l [] (fun iv2 => DCh P n w0 mu ops.toArray ds l [] iv2 (fun ivE hc => Ops P n w0 mu ops.toArray [] (headFm ds (ivE ++ iv2) ++ l) hc Q) C [] (blE E c k ++ rest)) D2 ivD ∧ Uq ivD ∧ Mono (chs c Rs ++ ivS) ivD ∧ (∀ i, (∃ v, lk ivD i = some v) ↔ i ∈ D ∨ ∃ v, lk (chs c Rs ++ ivS) i = some v) ∧ ∀ i v, lk ivD i = some v → lk (chs c Rs ++ ivS) i = some v ∨ ∃ o iv', ops.toArray[i]? = some o ∧ Mono iv' ivD ∧ HyR P n w0 mu (depFm ds iv' o.after.toList ++ l) [] o v := fun c hc =>
    de3_get D (chs c Rs ++ ivS) hndD (fun i hi => by
      rw [chs_lk]
      have e1 : lk Rs i = none := by
        cases hR : lk Rs i with
        | none => rfl
        | some R => exact absurd rfl (hEx i ((hkE i).1 ⟨R, hR⟩) i hi)
      rw [e1]
      cases hv : lk ivS i with
      | none => rfl
      | some v => exact absurd rfl (hSx i ((hkS i).1 ⟨v, hv⟩) i (List.mem_append_right _ hi))) (fun i v hv => by
      rw [chs_lk]
      rcases List.mem_append.1 hv with hv | hv
      · obtain ⟨rfl, R, hR⟩ := chs_mem Rs hv
        rw [(hsE i R hR).1]
      · have h1 := huS i v hv
        cases hR : lk Rs i with
        | none => exact h1
        | some R => rw [hES i R hR] at h1; cases h1) (fun _ _ h => h) (h3 c (hvalid c hc)) (fun i v hv => .inl hv)
  have hch : ∃ F : Ch → Fm, ∀ c, Valid kd k c → DE3 P n w0 mu ops.toArray ds l [] (fun iv2 => DCh P n w0 mu ops.toArray ds l [] iv2 (fun ivE hc => Ops P n w0 mu ops.toArray [] (headFm ds (ivE ++ iv2) ++ l) hc Q) C [] (blE E c k ++ rest)) D2 (F c) ∧ Uq (F c) ∧ Mono (chs c Rs ++ ivS) (F c) ∧ (∀ i, (∃ v, lk (F c) i = some v) ↔ i ∈ D ∨ ∃ v, lk (chs c Rs ++ ivS) i = some v) ∧ ∀ i v, lk (F c) i = some v → lk (chs c Rs ++ ivS) i = some v ∨ ∃ o iv', ops.toArray[i]? = some o ∧ Mono iv' (F c) ∧ HyR P n w0 mu (depFm ds iv' o.after.toList ++ l) [] o v := by
    classical
    refine ⟨fun c => if hc : Valid kd k c then Classical.choose (hex c hc) else [], fun c hc => ?_⟩
    simp only [hc, dif_pos]
    exact Classical.choose_spec (hex c hc)
  obtain ⟨F, hF⟩ := hch
  let val : Ch → Nat → Value := fun c i => match kd i with | .s v => v | .e _ => (c i).1 | .d => (lk (F c) i).getD undef
  have hvalF : ∀ c, Valid kd k c → ∀ i v, lk (F c) i = some v → val c i = v := fun c hc i v hv => by
    obtain ⟨_, _, hmo, _, _⟩ := hF c hc
    show (match kd i with | .s v => v | .e _ => (c i).1 | .d => (lk (F c) i).getD undef) = v
    cases hkd : kd i with
    | s u =>
      obtain ⟨e1, e2⟩ := hkdS i u hkd
      have := hmo i u (by rw [chs_lk, e1]; exact e2)
      rw [hv] at this; cases this; rfl
    | e R =>
      have e1 := (hkdE i R).1 hkd
      have := hmo i (c i).1 (by rw [chs_lk, e1])
      rw [hv] at this; cases this; rfl
    | d => rw [hv]; rfl
  have hFall : ∀ c, Valid kd k c → ∀ i, i < k → ∃ v, lk (F c) i = some v := fun c hc i hi => by
    obtain ⟨_, _, _, hkk, _⟩ := hF c hc
    rw [hkk i]
    rcases hcov' i hi with h | h | h
    · obtain ⟨v, hv⟩ := (hkS i).2 h
      right
      rw [chs_lk]
      cases lk Rs i with
      | some R => exact ⟨_, rfl⟩
      | none => exact ⟨v, hv⟩
    · obtain ⟨R, hR⟩ := (hkE i).2 h
      right
      rw [chs_lk, hR]
      exact ⟨_, rfl⟩
    · exact .inl h
  have hvalS : ∀ i v, lk ivS i = some v → i < k ∧ ∀ c, val c i = v := fun i v hv => by
    refine ⟨hlt' i (List.mem_append_left _ (List.mem_append_left _ ((hkS i).1 ⟨v, hv⟩))), fun c => ?_⟩
    show (match kd i with | .s v => v | .e _ => (c i).1 | .d => (lk (F c) i).getD undef) = v
    have : kd i = .s v := by
      show (match lk Rs i with | some R => Kd.e R | none => match lk ivS i with | some v => .s v | none => .d) = _
      cases hR : lk Rs i with
      | some R => rw [hES i R hR] at hv; cases hv
      | none => rw [hv]
    rw [this]
  cases C with
  | nil => simp [drawEWB] at hB
  | cons t0 C' =>
  simp only [drawEWB, Bool.and_eq_true, decide_eq_true_eq] at hB
  obtain ⟨⟨hi0m, hanc⟩, ⟨⟨⟨⟨⟨⟨⟨⟨⟨hks, hd⟩, hdK⟩, hback⟩, hcoverK⟩, hlink⟩, hSt⟩, hEt⟩, hge⟩, hstb⟩, hwt⟩ := hB
  have hi0E := mem_mem hi0m
  have hi0k := hlt' i0 (List.mem_append_left _ (List.mem_append_right _ hi0E))
  have hSl : ∀ listed, HeadInv .any ops.toArray k listed → listed.getD i0 false = true → ∀ i ∈ S, listed.getD i false = true := fun listed inv h => ancL_ok hanc inv h
  have hAncS : ∀ listed, HeadInv .any ops.toArray k listed → listed.getD i0 false = true → ∀ i v, i < k → kd i = .s v → listed.getD i false = true := fun listed inv h i v _ hkd => hSl listed inv h i ((hkS i).1 ⟨v, (hkdS i v hkd).2⟩)
  simp only [coverB, Bool.and_eq_true, decide_eq_true_eq] at hcoverK
  obtain ⟨⟨hndK, hltK⟩, hcovK⟩ := hcoverK
  have hgeK : ∀ j, j ∈ D2 ++ t0 :: C' → k ≤ j := fun j hj => by have := List.all_eq_true.1 hge j hj; simpa using this
  have hdsl : ∀ i d, lk ds i = some d → dstAt ops.toArray i = some d := fun i d h => by rw [← hds] at h; have := (dstTab_ok ops 0 i d h).2; simpa [dstAt] using this
  have hinh : ∃ c0 : Ch, Valid kd k c0 := by
    have h1 : ∀ i, ∃ x : Value × Hp, ∀ R, kd i = .e R → R x.1 x.2 := fun i => by
      cases hR : lk Rs i with
      | none => exact ⟨(undef, []), fun R h => by rw [(hkdE i R).1 h] at hR; cases hR⟩
      | some R =>
        obtain ⟨_, o, _, _, v, hn, hv⟩ := hsE i R (hlkm i R hR)
        exact ⟨(v, hn), fun R' h => by rw [(hkdE i R').1 h] at hR; cases hR; exact hv⟩
    exact ⟨fun i => Classical.choose (h1 i), fun i hi R hR => Classical.choose_spec (h1 i) R hR⟩
  obtain ⟨c0, hc0⟩ := hinh
  have inv0 : HeadInv .any ops.toArray k (Array.replicate ops.toArray.size false) :=
    ⟨by simp, fun j oj _ hl => (by rw [getD_replicate_false] at hl; cases hl), fun t _ ht => getD_in (by simpa using ht) (getD_replicate_false _ _)⟩
  have hleft : leftOf k (Array.replicate ops.toArray.size false) = k := by
    unfold leftOf
    rw [List.filter_eq_self.2]
    · simp
    · intro i hi
      have hi' : i < k := by simpa using hi
      have : (Array.replicate ops.toArray.size false).getD i true = false := getD_in (by simp at hks ⊢; omega) (getD_replicate_false _ _)
      simp only [this, Bool.not_false]
  have hbl0 : ∀ m, blks kd c0 (Array.replicate ops.toArray.size false) m = [] := by
    intro m
    induction m with
    | zero => rfl
    | succ m ih => simp only [blks, ih, blkAt, getD_replicate_false, Bool.and_false, cond_false, List.append_nil]
  have hisE : ∀ i, i < k → isE (kd i) = mem E i := fun i hi => by
    cases hkd : kd i with
    | e R => rw [mem_of ((hkE i).1 ⟨R, (hkdE i R).1 hkd⟩)]; rfl
    | s v =>
      cases hmm : mem E i with
      | false => rfl
      | true => obtain ⟨R, hR⟩ := (hkE i).2 (mem_mem hmm); rw [(hkdE i R).2 hR] at hkd; cases hkd
    | d =>
      cases hmm : mem E i with
      | false => rfl
      | true => obtain ⟨R, hR⟩ := (hkE i).2 (mem_mem hmm); rw [(hkdE i R).2 hR] at hkd; cases hkd
  have key := headE_runW hdsl (P := P) (n := n) (w0 := w0) (mu := mu) (l := l) (hi := hi) (rest := rest) (i0 := i0) (all := ops.toArray) (kd := kd) (val := val) (k := k) (g := ops.toArray.size - k) (Q' := QQ n w0 mu Q) hks hd hf1 hback hi0k (by rw [hisE i0 hi0k]; exact hi0m)
    (fun i o v hi ho hkd => by
      obtain ⟨e1, e2⟩ := hkdS i v hkd
      obtain ⟨o', iv', h1, h2, h3⟩ := hsS i v e2
      rw [ho] at h1; cases h1
      exact ⟨(hvalS i v e2).2, iv', fun j u hu => hvalS j u (h2 j u (by rw [← look_lk]; exact hu)), fun hx => hyG_perm (h3 hx) (hperm.symm.append_left _)⟩)
    hAncS
    (fun i o R hi ho hkd => by
      have e1 := (hkdE i R).1 hkd
      obtain ⟨_, o', h1, h2, _⟩ := hsE i R (hlkm i R e1)
      rw [ho] at h1; cases h1
      refine ⟨fun c => ?_, ivS, fun j u hu => hvalS j u (by rw [← look_lk]; exact hu), h2⟩
      show (match kd i with | .s v => v | .e _ => (c i).1 | .d => (lk (F c) i).getD undef) = _
      rw [hkd])
    (fun c hcv i o hi ho hkd => by
      obtain ⟨e1, e2⟩ := hkdD i hkd
      obtain ⟨v, hv⟩ := hFall c hcv i hi
      obtain ⟨_, _, _, _, hsp⟩ := hF c hcv
      rw [hvalF c hcv i v hv]
      rcases hsp i v hv with h0 | ⟨o', iv', h1, h2, h3⟩
      · rw [chs_lk, e1] at h0; rw [e2] at h0; cases h0
      · rw [ho] at h1; cases h1
        refine ⟨iv', fun j u hu => ?_, h3⟩
        have hj := h2 j u (by rw [← look_lk]; exact hu)
        refine ⟨?_, hvalF c hcv j u hj⟩
        obtain ⟨_, _, _, hkk, _⟩ := hF c hcv
        rcases (hkk j).1 ⟨u, hj⟩ with h | ⟨v', h⟩
        · exact hlt' j (List.mem_append_right _ h)
        · rw [chs_lk] at h
          cases hR : lk Rs j with
          | some R => exact hlt' j (List.mem_append_left _ (List.mem_append_right _ ((hkE j).1 ⟨R, hR⟩)))
          | none => rw [hR] at h; exact (hvalS j v' h).1)
    (fun f c listed hlf inv hallE a w hmid => ?_)
    (fun listed inv i hi hie hun t ht => ?_)
    k c0 _ a { w with drawn := w.drawn + 1 } hleft inv0 ⟨hk.size, hk.defers, hk.has, hc0, by rw [hbl0, hbW, getD_replicate_false]; exact hG.drawn _, fun i _ hl => (by rw [getD_replicate_false] at hl; cases hl)⟩
  · have e : k + (ops.toArray.size - k) = ops.toArray.size := by omega
    rw [e] at key
    exact key
  · obtain ⟨hX, huq, hmo, hkk, hsp1⟩ := hF c hmid.valid
    have hFk : ∀ i v, lk (F c) i = some v → i < k := fun i v hv => by
      rcases (hkk i).1 ⟨v, hv⟩ with h | ⟨v', h⟩
      · exact hlt' i (List.mem_append_right _ h)
      · rw [chs_lk] at h
        cases hR : lk Rs i with
        | some R => exact hlt' i (List.mem_append_left _ (List.mem_append_right _ ((hkE i).1 ⟨R, hR⟩)))
        | none => rw [hR] at h; exact (hvalS i v' h).1
    have hndK' := hndK
    rw [List.nodup_append, List.nodup_append] at hndK'
    obtain ⟨⟨_, hndD2, hD2x⟩, hndC, hCx⟩ := hndK'
    obtain ⟨iv2, hY, hu2, hmo2, hkk2, hsp2⟩ := de3_get (base := F c) D2 (F c) hndD2 (fun i hi => by
      cases hv : lk (F c) i with
      | none => rfl
      | some v =>
        have h1 := hFk i v hv
        have h2 := hgeK i (List.mem_append_left _ hi)
        omega) huq (fun _ _ h => h) hX (fun i v hv => .inl hv)
    have hgetK : ∀ j, k ≤ j → j < ops.toArray.size → listed.getD j true = false := fun j h1 h2 => inv.tail j h1 h2
    have hltK' : ∀ i ∈ (S ++ E ++ D ++ D2) ++ t0 :: C', i < ops.toArray.size := fun i hi => by have := List.all_eq_true.1 hltK i hi; simpa using this
    have hiv2 : ∀ i v, lk iv2 i = some v → i < ops.toArray.size := fun i v hv => by
      rcases (hkk2 i).1 ⟨v, hv⟩ with h | ⟨v', h⟩
      · exact hltK' i (List.mem_append_left _ (List.mem_append_right _ h))
      · have := hFk i v' h; omega
    have invK : HeadInv .any ops.toArray ops.toArray.size listed := ⟨inv.size, inv.closed, fun t h1 h2 => by omega⟩
    have hlfK : leftOf ops.toArray.size listed = f + (ops.toArray.size - k) := by rw [leftOf_more hks hgetK, hlf]
    have hbe : ∀ m, m ≤ k → blks kd c listed m = blE E c m := by
      intro m
      induction m with
      | zero => intro _; rfl
      | succ m ih =>
        intro hm
        simp only [blks, blE, blkAt]
        rw [ih (by omega), hisE m (by omega)]
        cases hme : mem E m with
        | false => rfl
        | true =>
          have h1 := hallE m (by omega) (by rw [hisE m (by omega)]; exact hme)
          have h2 : listed.getD m false = true := by
            cases hcc : listed.getD m false with
            | true => rfl
            | false => rw [getD_in (by rw [inv.size]; omega) hcc] at h1; cases h1
          rw [h2]; rfl
    have hgood : Good w0 mu (blE E c k ++ rest) w := by rw [← hbe k (Nat.le_refl _)]; exact hmid.good
    have hmidC : MidC n w0 mu ops.toArray l iv2 [] (blE E c k ++ rest) listed a w := by
      refine ⟨hmid.size, hmid.defers, hmid.has, hgood, fun i v hv hl d hdd => ?_, fun i v hv => by cases hv⟩
      have hik : i < k := by
        rcases Nat.lt_or_ge i k with h | h
        · exact h
        · have h1 := hgetK i h (hiv2 i v hv)
          rw [getD_both h1] at hl; cases hl
      obtain ⟨v', hv'⟩ := hFall c hmid.valid i hik
      have h1 := hmo2 i v' hv'
      rw [hv] at h1; cases h1
      rw [hmid.done i hik hl c hmid.valid (fun _ _ _ _ => rfl) d hdd]
      exact hvalF c hmid.valid i v hv'
    have key2 := chain_run2 hdsl (P := P) (n := n) (w0 := w0) (mu := mu) (l := l) (hp := rest) (h0 := []) (all := ops.toArray) (ivS := iv2) (k := ops.toArray.size) (t0 := t0) (g := 0) (Q' := QQ n w0 mu Q) (X := fun ivE hc => Ops P n w0 mu ops.toArray [] (headFm ds (ivE ++ iv2) ++ l) hc Q) (dn := fun i => mem E i || mem S i) (Nat.le_refl _) hdK hf hback (hpLe_cnt fun b => by simp [cntB])
      (fun i hi hdn => by
        have := List.all_eq_true.1 hstb i (List.mem_range.2 hi)
        rw [hdn] at this
        simp only [Option.isSome_none, Bool.false_or, Bool.or_eq_true] at this
        rcases this with h | h
        · exact .inl (Nat.eq_of_beq_eq_true h)
        · exact .inr h)
      (fun i v hv => ⟨hiv2 i v hv, fun hne => ?_⟩)
      (fun ivE h listed inv hall hX a w hmid hEk => ?_)
      (fun listed inv i hi hun t ht hr => by
        obtain ⟨_, o, ho, _⟩ := mem_ready.1 hr
        have := (Array.getElem?_eq_some_iff.1 ho).1
        omega)
      (f + (ops.toArray.size - k)) (t0 :: C') [] (blE E c k ++ rest) listed a w hlfK invK (fun i hi => by
        simp only [Bool.or_eq_true] at hi
        rcases hi with hi | hi
        · exact hallE i (hlt' i (List.mem_append_left _ (List.mem_append_right _ (mem_mem hi)))) (by rw [hisE i (hlt' i (List.mem_append_left _ (List.mem_append_right _ (mem_mem hi))))]; exact hi)
        · have hl0 := hallE i0 hi0k (by rw [hisE i0 hi0k]; exact hi0m)
          have hl1 : listed.getD i0 false = true := by
            cases hcc : listed.getD i0 false with
            | true => rfl
            | false => rw [getD_in (by rw [inv.size]; omega) hcc] at hl0; cases hl0
          have h7 := hSl listed inv hl1 i (mem_mem hi)
          cases hcc : listed.getD i true with
          | true => rfl
          | false => rw [getD_both hcc] at h7; cases h7) hmidC (fun i v hv => by cases hv)
      (fun i hi => ⟨hltK' i (List.mem_append_right _ hi), hgetK i (hgeK i (List.mem_append_right _ hi)) (hltK' i (List.mem_append_right _ hi)), ?_⟩) hndC hlink (fun i hi hl => ?_) (hpLe_cnt fun b => by simp [cntB]) (fun _ => HpLe.right _ _) hY
    · exact key2
    · rcases hsp2 i v hv with h0 | ⟨o, iv', h1, h2, h3⟩
      · rcases hsp1 i v h0 with h0 | ⟨o, iv', h1, h2, h3⟩
        · rw [chs_lk] at h0
          cases hR : lk Rs i with
          | some R =>
            simp only [mem_of ((hkE i).1 ⟨R, hR⟩), Bool.true_or] at hne; cases hne
          | none =>
            rw [hR] at h0
            obtain ⟨o, iv', h1, h2, h3⟩ := hsS i v h0
            refine ⟨o, iv', h1, fun j u hu => ?_, fun hx => ?_⟩
            · refine hmo2 j u (hmo j u ?_)
              have h4 := h2 j u hu
              rw [chs_lk]
              cases hR2 : lk Rs j with
              | some R2 => rw [hES j R2 hR2] at h4; cases h4
              | none => exact h4
            · simp only [mem_of ((hkS i).1 ⟨v, h0⟩), Bool.or_true] at hne; cases hne
        · exact ⟨o, iv', h1, fun j u hu => hmo2 j u (h2 j u hu), fun hx => hyr_g h3⟩
      · exact ⟨o, iv', h1, h2, fun hx => hyr_g h3⟩
    · have hknows : Knows n (headFm ds (ivE ++ iv2) ++ l) a := by
        refine ⟨hmid.size, hmid.defers, fun t v ht => ?_⟩
        rcases look_append ht with ht | ⟨_, ht⟩
        · obtain ⟨j, h1, h2⟩ := headFm_mem (look_mem ht)
          rcases List.mem_append.1 h1 with h1 | h1
          · exact (hmid.doneE j v h1).2 t (hdsl _ _ h2)
          · have hj := hu2 j v h1
            have hjk := hiv2 j v hj
            refine hmid.doneS j v hj ?_ t (hdsl _ _ h2)
            have h5 := hall j hjk
            cases hcc : listed.getD j false with
            | true => rfl
            | false => rw [getD_in (by rw [inv.size]; omega) hcc] at h5; cases h5
        · exact hmid.has t v ht
      refine ⟨?_, hX a w hknows hmid.good⟩
      rw [List.eq_nil_iff_forall_not_mem]
      intro i hi
      obtain ⟨hun, o, ho, _⟩ := mem_ready.1 hi
      rw [hall i (Array.getElem?_eq_some_iff.1 ho).1] at hun; cases hun
    · cases hv : lk iv2 i with
      | none => rfl
      | some v =>
        exfalso
        have h2 := hgeK i (List.mem_append_right _ hi)
        rcases (hkk2 i).1 ⟨v, hv⟩ with h | ⟨v', h⟩
        · exact hCx i (List.mem_append_right _ h) i hi rfl
        · have := hFk i v' h; omega
    · have h1 := mem_mem (List.all_eq_true.1 hcovK i (List.mem_range.2 hi))
      rcases List.mem_append.1 h1 with h1 | h1
      · left
        rcases List.mem_append.1 h1 with h1 | h1
        · obtain ⟨v, hv⟩ := hFall c hmid.valid i (hlt' i h1)
          exact ⟨v, hmo2 i v hv⟩
        · exact (hkk2 i).2 (.inl h1)
      · exact .inr h1
  · intro hr
    obtain ⟨_, o, ho, hall⟩ := mem_ready.1 hr
    have hts : t < ops.toArray.size := (Array.getElem?_eq_some_iff.1 ho).1
    have hwl : ∀ j, Region.waitsFor .any ops.toArray t j = true → listed.getD j false = true := fun j hj => by
      obtain ⟨oj, h6, e, he, hb, heq⟩ := Region.waitsFor_spec hj
      rw [ho] at h6; cases h6
      rw [← heq]; exact hall e he hb
    have h1 := List.all_eq_true.1 hwt t (List.mem_range.2 hts)
    simp only [Bool.or_eq_true] at h1
    rcases h1 with (h1 | h1) | h1
    · have : t < k := by simpa using h1
      omega
    · have h2 := hwl i (List.all_eq_true.1 h1 i (mem_mem (by rw [← hisE i hi]; exact hie)))
      rw [getD_both hun] at h2; cases h2
    · obtain ⟨j, hj, h2⟩ := List.any_eq_true.1 h1
      rw [Bool.and_eq_true] at h2
      have h3 := hwl j h2.2
      rw [getD_both (inv.tail j (by simpa using h2.1) (List.mem_range.1 hj))] at h3; cases h3
theorem st_drawEW {ops : List Oper} (k i0 : Nat) (hi rest : Hp) (S E D D2 C : List Nat) (hB : drawEWB ops.toArray n k i0 S E D D2 C = true) (hperm : (hi ++ rest).Perm hp) (hf : freshB l (dstsOf ops.toArray ops.toArray.size) = true) (hf1 : freshB l (dstsOf ops.toArray k) = true) (hsp : splitB k S E D = true) (hds : dstTab ops 0 = ds)
    (h : DE1 P n w0 mu ops.toArray ds l hp (fun ivS => DE2W P n w0 mu ops.toArray ds l i0 hi rest ivS (fun Rs => DN (fun iv bl => DE3 P n w0 mu ops.toArray ds l [] (fun iv1 => DE3 P n w0 mu ops.toArray ds l [] (fun iv2 => DCh P n w0 mu ops.toArray ds l [] iv2 (fun ivE hc => Ops P n w0 mu ops.toArray [] (headFm ds (ivE ++ iv2) ++ l) hc Q) C [] (bl ++ rest)) D2 iv1) D (iv ++ ivS)) Rs) E []) S []) : StAny P n w0 mu ops.toArray l hp Q := by
  refine st_drawEW0 k i0 hi rest S E D D2 C hB hperm hf hf1 hsp hds (de1_mono (fun ivS h2 => de2w_mono E [] (fun Rs e h3 c hc => ?_) h2) S [] h)
  have := dn_c Rs _ c h3 hc
  have he : blE E c k = hpK c (Rs.map (·.1)) := by
    simp only [splitB, Bool.and_eq_true, decide_eq_true_eq] at hsp
    rw [blE_hpK, ← hsp.1.1.1, e]; simp
  rw [he]
  exact this
end
set_option maxRecDepth 20000
section
variable {n : Nat} {w0 : World} {mu : List Nat} {l : Fm} {hp : Hp} {Q : Exit → Fm → Hp → Prop} {ds : List (Nat × Nat)}
/-- A region that draws its order: makers E, what hangs on them D, behind all makers a chain C; D2 behind it. -/
theorem drawEW {id : Nat} {ops : List Oper} (k i0 : Nat) (hi rest : Hp) (S E D D2 C : List Nat) (h : DE1 Tryz.prog n w0 mu ops.toArray ds l hp (fun ivS => DE2W Tryz.prog n w0 mu ops.toArray ds l i0 hi rest ivS (fun Rs => DN (fun iv bl => DE3 Tryz.prog n w0 mu ops.toArray ds l [] (fun iv1 => DE3 Tryz.prog n w0 mu ops.toArray ds l [] (fun iv2 => DCh Tryz.prog n w0 mu ops.toArray ds l [] iv2 (fun ivE hc => Ops Tryz.prog n w0 mu ops.toArray [] (headFm ds (ivE ++ iv2) ++ l) hc Q) C [] (bl ++ rest)) D2 iv1) D (iv ++ ivS)) Rs) E []) S [])
    (hds : dstTab ops 0 = ds := by (simp only [dstTab, Nat.reduceAdd, Nat.zero_add]; rfl)) (hm : Tryz.prog.follows .mixedOrders = true := by kernel_rfl) (hperm : (hi ++ rest).Perm hp := by (exact clcntP)) (hB : drawEWB ops.toArray n k i0 S E D D2 C = true := by decide +kernel) (hf : freshB l (dstsOf ops.toArray ops.toArray.size) = true := by rfl) (hf1 : freshB l (dstsOf ops.toArray k) = true := by rfl) (hsp : splitB k S E D = true := by decide +kernel) : St Tryz.prog n w0 mu (.region id ops.toArray true) l hp Q :=
  st_any hm (st_drawEW k i0 hi rest S E D D2 C hB hperm hf hf1 hsp hds h)
/-- One of the makers that does not write. -/
theorem wOther {all : Array Oper} {i0 i : Nat} {hi rest : Hp} {iv : Fm} {X : List (Nat × RT) → Prop} {E : List Nat} {Rs : List (Nat × RT)} (h : DE2 Tryz.prog n w0 mu all ds l rest iv (fun Rs' => DE2W Tryz.prog n w0 mu all ds l i0 hi rest iv X E Rs') [i] Rs) (hne : Nat.beq i i0 = false := by rfl) : DE2W Tryz.prog n w0 mu all ds l i0 hi rest iv X (i :: E) Rs := by
  obtain ⟨o, R, ho, hy, hn, h⟩ := h
  have hne' : i ≠ i0 := fun e => by rw [e, beq_iff.2 rfl] at hne; cases hne
  exact ⟨o, R, ho, ⟨fun _ => hy, fun e => absurd e hne'⟩, hn, h⟩
theorem wAlloc {all : Array Oper} {i0 i d : Nat} {ty : TypeId} {pos : String} {af : Array Edge} {hi rest : Hp} {iv : Fm} {X : List (Nat × RT) → Prop} {E : List Nat} {Rs : List (Nat × RT)} {t : TypeId} {z : Value} {cs : List Value} (h : DE2W Tryz.prog n w0 mu all ds l i0 hi rest iv X E ((i, fun v hn => ∃ b, v = .pointer (some ⟨b, 0, none⟩) ∧ hn = [⟨b, cs.toArray, t⟩]) :: Rs)) (hne : Nat.beq i i0 = false := by rfl) (ho : all[i]? = some ⟨some d, .alloc t, ty, pos, af, none⟩ := by rfl) (hz : lk Tb.zs t = some z := by rfl) (hc : z.cells = cs.toArray := by (first | ((simp only [Value.cells]) <;> rfl) | rfl)) : DE2W Tryz.prog n w0 mu all ds l i0 hi rest iv X (i :: E) Rs :=
  wOther (eAlloc (eNil h) ho hz hc) hne
theorem wNil {all : Array Oper} {i0 : Nat} {hi rest : Hp} {iv : Fm} {X : List (Nat × RT) → Prop} {Rs : List (Nat × RT)} (h : X Rs) : DE2W Tryz.prog n w0 mu all ds l i0 hi rest iv X [] Rs := h
/-- The one that writes: a call. -/
theorem wCall {all : Array Oper} {i d : Nat} {ty : TypeId} {pos : String} {af : Array Edge} {hi rest : Hp} {iv : Fm} {X : List (Nat × RT) → Prop} {E : List Nat} {Rs : List (Nat × RT)} {f : FuncId} {xs : List Operand} {vs : List Value} {tys : Array TypeId} {R : RT} (hc : ∀ w, Good w0 mu (hi ++ rest) w → Fn Tryz.prog f vs.toArray w (hi.map (·.b)) R) (hn : ∃ v hn, R v hn) (h : DE2W Tryz.prog n w0 mu all ds l i hi rest iv X E ((i, R) :: Rs))
    (ho : all[i]? = some ⟨some d, .call { callee := .value (.func f), args := xs.toArray, argTypes := tys }, ty, pos, af, none⟩ := by rfl) (hcal : mem calN f = true := by rfl) (hv : evs (depFm ds iv af.toList ++ l) xs = some vs := by rfl) : DE2W Tryz.prog n w0 mu all ds l i hi rest iv X (i :: E) Rs := by
  refine ⟨_, R, ho, ⟨fun e => absurd rfl e, fun _ => ⟨fun a _ => by simp [Region.wanted], fun a w hx hk hG K Q hK => ?_⟩⟩, hn, h⟩
  obtain ⟨fn, c, hf, hname, hb⟩ := calOk f hcal
  unfold Oper.wp
  rw [run_call rfl hf hname hb hk hv w]
  refine Calls.mono (hc w (hG.sub (List.sublist_append_right _ _))) ?_
  rintro e w' ⟨u, hn, rfl, hg', hR⟩
  have hG2 : Good w0 mu (hi ++ (hx ++ rest)) w := hG.perm (by rw [← List.append_assoc, ← List.append_assoc]; exact List.Perm.append_right _ List.perm_append_comm)
  exact hK u hn w' hR (hG2.transM hg')
end
end Go.Proofs.YtiaelhhmlbfkmaaGreat
