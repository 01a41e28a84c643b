/- Layer 18 (part): whether a partition may be. -/
import Derived.Test.YtdfkcjjbflcafaaGreatPartD
namespace Go.Proofs.YtdfkcjjbflcafaaGreat
open Go.RowKit
set_option linter.unusedVariables false
set_option linter.unusedSimpArgs false
set_option maxRecDepth 20000
attribute [local irreducible] Hy St Ops DH DHF
/-- A partition by its three slices. -/
structure PartG (w : World) (pv gv ov : Value) (P : PtD) : Prop where
  pages : SlAt w pv 2 (P.pages.map pgV)
  guests : ∃ vv mv : Nat → Value, SlAt w gv 5 ((List.range P.guests.length).map fun i => [.bool (P.gs i).live, .bool (P.gs i).dying, .int .i64 (P.gs i).first, vv i, mv i]) ∧ ∀ i, i < P.guests.length → SlAt w (vv i) 1 ((P.gs i).vcpus.map inV) ∧ SlAt w (mv i) 2 ((P.gs i).maps.map mpV)
  on : SlAt w ov 2 (P.on.map stV)
  wf : P.Wf
theorem PartG.good {w w' : World} {hp : Hp} {pv gv ov : Value} {P : PtD} (h : PartG w pv gv ov P) (hG : Good w [] hp w') : PartG w' pv gv ov P := by
  obtain ⟨h1, ⟨vv, mv, h2, h3⟩, h4, h5⟩ := h
  exact ⟨h1.good hG, ⟨vv, mv, h2.good hG, fun i hi => ⟨(h3 i hi).1.good hG, (h3 i hi).2.good hG⟩⟩, h4.good hG, h5⟩
theorem getD_range_map {α : Type} [Inhabited α] (f : Nat → α) {n i : Nat} (hi : i < n) : ((List.range n).map f)[i]? = some (f i) := by simp [hi]
theorem PartG.open {w : World} {pv gv ov : Value} {P : PtD} (h : PartG w pv gv ov P) (hn : P.Len) : ∃ L : PtL, pv = L.pv P.pages.length ∧ gv = L.gv P.guests.length ∧ ov = L.ov P.on.length ∧ PartV w L P := by
  obtain ⟨⟨⟨p, pc, e1, hp⟩, _⟩, ⟨vv, mv, ⟨⟨g, gc, e2, hg⟩, _⟩, h3⟩, ⟨⟨o, oc, e4, ho⟩, _⟩, h5⟩ := h
  obtain ⟨a, b, c, d, e⟩ := hn
  obtain ⟨pb, po, rfl, hp2⟩ := hp (by intro h; rw [List.map_eq_nil_iff] at h; rw [h] at a; simp at a)
  obtain ⟨gb, go, rfl, hg2⟩ := hg (by intro h; rw [List.map_eq_nil_iff, List.range_eq_nil] at h; omega)
  obtain ⟨ob, oo, rfl, ho2⟩ := ho (by intro h; rw [List.map_eq_nil_iff] at h; rw [h] at d; simp at d)
  simp only [List.length_map, List.length_range] at e1 e2 e4
  refine ⟨⟨pb, po, pc, gb, go, gc, ob, oo, oc, vv, mv⟩, e1, e2, e4, ⟨fun i hi => ?_, fun i hi => ?_, fun i hi => (h3 i hi).1, fun i hi => (h3 i hi).2, fun i hi => ?_, h5⟩⟩
  · refine hp2 i _ ?_
    rw [List.getElem?_map, PtD.pg, List.getD_eq_getElem?_getD, List.getElem?_eq_getElem hi]; rfl
  · exact hg2 i _ (getD_range_map _ hi)
  · refine ho2 i _ ?_
    rw [List.getElem?_map, PtD.st, List.getD_eq_getElem?_getD, List.getElem?_eq_getElem hi]; rfl
theorem HpLe.of_perm {r : Hp} : ∀ {h h' : Hp}, h.Perm h' → HpLe r h → HpLe r h' := by
  cases r with
  | nil => intros; trivial
  | cons e r =>
    rintro h h' hp ⟨x, h1, h2⟩
    exact ⟨x, h1.trans hp, h2⟩
theorem rows_get {f : Int} {k : Nat} (hlt : k < 5) : ([f, f + 1, f + 2, f + 3, f + 4].map inV)[k]? = some (inV (f + (k : Int))) := by
  have : k = 0 ∨ k = 1 ∨ k = 2 ∨ k = 3 ∨ k = 4 := by omega
  rcases this with rfl | rfl | rfl | rfl | rfl <;> simp
theorem may_e {w : World} {pv gv ov : Value} {P : PtD} {bp : Nat} (h : PartG w pv gv ov P) (c0 : w.cell? ⟨bp, 0, none⟩ = some pv) (c1 : w.cell? ⟨bp, 1, none⟩ = some gv) (c2 : w.cell? ⟨bp, 2, none⟩ = some ov) :
    Fn Tryz.prog 40 [.pointer (some ⟨bp, 0, none⟩)].toArray w [] (fun u _ => u = .bool P.may) := by
  obtain ⟨p, pc, e1, _, hle1⟩ := h.pages.opened
  obtain ⟨o, oc, e3, _, hle3⟩ := h.on.opened
  obtain ⟨g, gc, e2, hle2⟩ : ∃ g gc, gv = .slice g P.guests.length gc ∧ P.guests.length ≤ 281474976710656 := by
    obtain ⟨vv, mv, ⟨⟨g, gc, e, _⟩, hl⟩, _⟩ := h.guests
    simp only [List.length_map, List.length_range] at e hl
    exact ⟨g, gc, e, hl⟩
  have c0' := c0
  have c1' := c1
  have c2' := c2
  rw [e1] at c0'
  rw [e2] at c1'
  rw [e3] at c2'
  refine enter Tryz.func40 ?_
  refine run ?_
  refine callE (fun wc hG => between_e _ _ _ wc) ?_
  refine runG ?_
  refine callEG (fun h1 wc hG => between_e _ _ _ wc) ?_
  refine runG ?_
  have hlen : (!(PtD.btw (P.pages.length : Int) 24 64) || !decide ((P.guests.length : Int) = 4) || !(PtD.btw (P.on.length : Int) 1 3)) = false → P.Len := fun h => by
    simp only [Bool.or_eq_false_iff, Bool.not_eq_false', PtD.btw, Bool.and_eq_true, decide_eq_true_eq] at h
    exact ⟨by omega, by omega, by omega, by omega, by omega⟩
  refine st_cond _ rfl (fun hc => ?_) (fun hc => ?_)
  · refine run ?_
    refine fin1 ?_
    have : P.may = false := by
      rw [← Bool.not_eq_true]
      intro hm
      simp only [PtD.may, Bool.and_eq_true, decide_eq_true_eq] at hm
      obtain ⟨⟨⟨⟨⟨a, b⟩, c, d⟩, _⟩, _⟩, _⟩ := hm
      simp only [PtD.btw, Bool.or_eq_true, Bool.not_eq_true', Bool.and_eq_false_iff, decide_eq_false_iff_not, Bool.not_not] at hc
      omega
    rw [this]
  have hn := hlen (by simpa using hc)
  obtain ⟨L, rfl, rfl, rfl, hv⟩ := h.open hn
  have hQ : PartQ w bp L P := ⟨hv, hn, c0, c1, c2⟩
  cases e1
  cases e2
  cases e3
  have hmay : P.may = (allB 4 P.round && allB P.pages.length (P.paged (P.taken 4)) && allB P.on.length P.seated) := by
    obtain ⟨a, b, c, d, e⟩ := hn
    simp only [PtD.may, a, b, c, d, e, decide_true, Bool.and_self, Bool.true_and]
  have h4 := hn.g4
  refine run ?_
  refine loopS (σ := Nat × Value × Hp) (fun s => [(3, s.2.1), (37, .int .i64 (s.1 : Int))]) (fun s => s.2.2) (fun s => s.1 ≤ 5 ∧ (∀ j, j < s.1 - 1 → P.round j = true) ∧ Acc 3 1 s.2.1 s.2.2 ((P.taken (s.1 - 1)).map inV)) (fun s => 5 - s.1) (0, _, []) ⟨by omega, fun j hj => absurd hj (by omega), Acc.nil _ _⟩ ?_
  rintro ⟨k, tv, ha⟩ m hm ⟨hk, hall, hA⟩
  dsimp only at hm hk hall hA ⊢
  refine run ?_
  refine st_cond _ rfl (fun hc => ?_) (fun hc => ?_)
  · have hlt : k < 5 := by simp at hc; omega
    refine run ?_
    refine st_cond _ rfl (fun hc => ?_) (fun hc => ?_)
    · have hk0 : k = 0 := by simp at hc; omega
      subst hk0
      refine run ?_
      refine nextS (1, tv, ha) ⟨by omega, fun j hj => absurd hj (by simp), hA⟩
    have hk0 : 0 < k := by simp at hc; omega
    obtain ⟨i, rfl⟩ : ∃ i, k = i + 1 := ⟨k - 1, by omega⟩
    rw [Nat.add_sub_cancel] at hall hA
    have hno : P.round i = false → allB 4 P.round = false := fun h => by
      rw [← Bool.not_eq_true, allB_iff]; intro ha; rw [ha i (by omega)] at h; cases h
    have hyes : P.round i = true → ∀ j, j < i + 1 → P.round j = true := fun h j hj => by
      rcases Nat.lt_succ_iff_lt_or_eq.1 hj with hj | rfl
      · exact hall j hj
      · exact h
    refine run ?_
    refine callE (fun wc hG => guested_e (hQ.good hG) i (by omega) ((i + 1 : Nat) : Int) (by omega)) ?_
    refine run ?_
    refine st_cond _ rfl (fun hc => ?_) (fun hc => ?_)
    · refine run ?_
      refine fin1 ?_
      simp only [Bool.not_eq_true'] at hc
      rw [hmay, hno (by rw [PtD.round, hc]; rfl)]
      rfl
    simp only [Bool.not_eq_false'] at hc
    have hg0 := hv.gs0 (i := i) (by omega)
    refine run ?_
    refine callE (fun wc hG => guest_e (hQ.good hG) i (by omega) ((i + 1 : Nat) : Int) (by omega)) ?_
    refine run ?_
    refine st_cond _ rfl (fun hl => ?_) (fun hl => ?_)
    · have hf : 16 ≤ (P.gs i).first ∧ (P.gs i).first ≤ (P.pages.length : Int) - 5 := by
        have := hc
        simp only [PtD.guested, hl, cond_true, PtD.btw, Bool.and_eq_true, decide_eq_true_eq] at this
        exact this.1.1.1.1.2
      have hp1 := hn.p1
      have hrow : P.rows i = [(P.gs i).first, (P.gs i).first + 1, (P.gs i).first + 2, (P.gs i).first + 3, (P.gs i).first + 4] := by rw [PtD.rows, hl]; rfl
      have hrd : P.round i = allB 5 fun k => !((P.taken i).any fun t => decide (t = (P.gs i).first + (k : Int))) := by rw [PtD.round, hc, hl]; rfl
      refine run ?_
      refine callB (fun wc hG => tables_e _ _ (P.gs i).first (by omega) (by omega) wc (hG.cell (hv.gs2 (i := i) (by omega)) (by simp))) (fun v hn hA2 => ?_)
      obtain ⟨T, tc, cur, rfl, rfl, hcur⟩ := hA2.open (by simp)
      simp only [List.cons_append, List.nil_append, List.length_map, List.length_cons, List.length_nil, Nat.zero_add, Nat.reduceAdd]
      refine run ?_
      refine loopS (σ := Nat × Value × Hp) (fun s => [(3, s.2.1), (56, .int .i64 (s.1 : Int))]) (fun s => ⟨T, cur, 3⟩ :: s.2.2) (fun s => s.1 ≤ 5 ∧ (∀ j, j < s.1 → ((P.taken i).any fun t => decide (t = (P.gs i).first + (j : Int))) = false) ∧ Acc 3 1 s.2.1 s.2.2 ((P.taken i ++ (List.range s.1).map fun (j : Nat) => (P.gs i).first + (j : Int)).map inV)) (fun s => 5 - s.1) (0, tv, ha) ⟨by omega, fun j hj => absurd hj (by simp), by simpa using hA⟩ ?_
      rintro ⟨k2, tv2, ha2⟩ m2 hm2 ⟨hk2, hall2, hA3⟩
      dsimp only at hm2 hk2 hall2 hA3 ⊢
      have hlen3 : ((P.taken i ++ (List.range k2).map fun (j : Nat) => (P.gs i).first + (j : Int)).map inV).length ≤ 1000 := by
        have hl : ∀ m, m ≤ 4 → (P.taken m).length ≤ m * 5 := by
          intro m
          induction m with
          | zero => intro _; simp [PtD.taken]
          | succ m ih =>
            intro hm
            have := ih (by omega)
            rw [PtD.taken, List.range_succ, List.flatMap_append, List.length_append]
            have e : (List.flatMap P.rows [m]).length ≤ 5 := by
              simp only [List.flatMap_cons, List.flatMap_nil, List.append_nil, PtD.rows]
              cases (P.gs m).live <;> simp
            unfold PtD.taken at this
            omega
        have := hl i (by omega)
        simp only [List.length_map, List.length_append, List.length_range]
        omega
      refine run ?_
      refine st_cond _ rfl (fun hc => ?_) (fun hc => ?_)
      · have hlt2 : k2 < 5 := by simp at hc; omega
        have hx : nth cur.toList k2 = some (.int .i64 ((P.gs i).first + (k2 : Int))) := by
          have := nth_of_row (k := 0) (hcur k2 _ (rows_get hlt2)) rfl
          simpa using this
        refine run ?_
        refine callE (fun wc hG => containsInt_e ((P.gs i).first + (k2 : Int)) _ tv2 (hA3.slAt hG (fun b hb => List.mem_cons_of_mem _ hb) (by omega))) ?_
        refine run ?_
        have hany : ((P.taken i ++ (List.range k2).map fun (j : Nat) => (P.gs i).first + (j : Int)).any fun t => decide (t = (P.gs i).first + (k2 : Int))) = (P.taken i).any fun t => decide (t = (P.gs i).first + (k2 : Int)) := by
          rw [List.any_append]
          have : ((List.range k2).map fun (j : Nat) => (P.gs i).first + (j : Int)).any (fun t => decide (t = (P.gs i).first + (k2 : Int))) = false := by
            rw [List.any_eq_false]
            intro x hx
            obtain ⟨j, hj, rfl⟩ := List.mem_map.1 hx
            have := List.mem_range.1 hj
            simp
            omega
          rw [this, Bool.or_false]
        rw [hany]
        refine st_cond _ rfl (fun hc => ?_) (fun hc => ?_)
        · refine run ?_
          refine fin1 ?_
          rw [hmay, hno (by rw [hrd, ← Bool.not_eq_true, allB_iff]; intro h; have := h k2 hlt2; rw [hc] at this; cases this)]
          rfl
        · refine run ?_
          intro X
          refine appendA (c := inV ((P.gs i).first + (k2 : Int))) hA3 (fun v' ha' hA' => ?_) (by omega) (news_own (m := 1) mh rfl) (hperm := List.perm_append_comm (l₂ := [_, _]))
          refine run ?_
          refine nextS (k2 + 1, v', ha') ⟨by omega, fun j hj => ?_, ?_⟩ (h2 := HpLe.of_perm (List.perm_append_comm (l₁ := [_, _])) ⟨_, p1, HpLe.skip (HpLe.refl _)⟩)
          · rcases Nat.lt_succ_iff_lt_or_eq.1 hj with hj | rfl
            · exact hall2 j hj
            · exact hc
          · simpa [List.range_succ] using hA'
      · have hk5 : k2 = 5 := by simp at hc; omega
        subst hk5
        refine run ?_
        refine nextS (i + 2, tv2, ha2) ⟨by omega, hyes (by rw [hrd, allB_iff]; intro j hj; rw [hall2 j hj]; rfl), ?_⟩
        have : P.taken (i + 2 - 1) = P.taken i ++ (List.range 5).map fun (j : Nat) => (P.gs i).first + (j : Int) := by
          show P.taken (i + 1) = _
          rw [PtD.taken, List.range_succ, List.flatMap_append]
          simp [hrow, PtD.taken, List.range_succ]
        rw [this]; exact hA3
    · refine run ?_
      refine nextS (i + 2, tv, ha) ⟨by omega, hyes (by rw [PtD.round, hc, hl]; rfl), ?_⟩
      have : P.taken (i + 2 - 1) = P.taken i := by
        show P.taken (i + 1) = _
        rw [PtD.taken, List.range_succ, List.flatMap_append]
        simp [PtD.rows, hl, PtD.taken]
      rw [this]; exact hA
  · have hk5 : k = 5 := by simp at hc; omega
    subst hk5
    rw [show allB 4 P.round = true from allB_iff.2 hall, Bool.true_and] at hmay
    have hlA : ((P.taken (5 - 1)).map inV).length ≤ 281474976710656 := by
      rw [List.length_map]
      have hl : ∀ m, (P.taken m).length ≤ m * 5 := by
        intro m
        induction m with
        | zero => simp [PtD.taken]
        | succ m ih =>
          rw [PtD.taken, List.range_succ, List.flatMap_append, List.length_append]
          have e : (List.flatMap P.rows [m]).length ≤ 5 := by
            simp only [List.flatMap_cons, List.flatMap_nil, List.append_nil, PtD.rows]
            cases (P.gs m).live <;> simp
          unfold PtD.taken at ih
          omega
      have := hl (5 - 1)
      omega
    refine run ?_
    refine loopS (σ := Nat) (fun k => [(75, .int .i64 (k : Int))]) (fun _ => ha) (fun k => k ≤ P.pages.length ∧ ∀ j, j < k → P.paged (P.taken 4) j = true) (fun k => P.pages.length - k) 0 ⟨by omega, fun j hj => absurd hj (by omega)⟩ ?_
    rintro k m2 hm2 ⟨hk2, hall2⟩
    refine run ?_
    refine st_cond _ rfl (fun hc => ?_) (fun hc => ?_)
    · have hlt : k < P.pages.length := by simp at hc; omega
      refine run ?_
      refine callE (fun wc hG => paged_e (hQ.good hG) k hlt (P.taken 4) tv (hA.slAt hG (fun b hb => hb) hlA)) ?_
      refine run ?_
      refine st_cond _ rfl (fun hc3 => ?_) (fun hc3 => ?_)
      · refine run ?_
        refine fin1 ?_
        rw [hmay, show allB P.pages.length (P.paged (P.taken 4)) = false by
          rw [← Bool.not_eq_true, allB_iff]; intro h; rw [h k hlt] at hc3; simp at hc3]
        rfl
      · refine run ?_
        refine nextS (k + 1) ⟨by omega, fun j hj => ?_⟩
        rcases Nat.lt_succ_iff_lt_or_eq.1 hj with hj | rfl
        · exact hall2 j hj
        · simpa using hc3
    have hge : k = P.pages.length := by simp at hc; omega
    subst hge
    rw [show allB P.pages.length (P.paged (P.taken 4)) = true from allB_iff.2 hall2, Bool.true_and] at hmay
    refine run ?_
    refine loopS (σ := Nat) (fun k => [(90, .int .i64 (k : Int))]) (fun _ => []) (fun k => k ≤ P.on.length ∧ ∀ j, j < k → P.seated j = true) (fun k => P.on.length - k) 0 ⟨by omega, fun j hj => absurd hj (by omega)⟩ ?_
    rintro k m3 hm3 ⟨hk3, hall3⟩
    refine run ?_
    refine st_cond _ rfl (fun hc => ?_) (fun hc => ?_)
    · have hlt : k < P.on.length := by simp at hc; omega
      refine run ?_
      refine callE (fun wc hG => seated_e (hQ.good hG) k hlt) ?_
      refine run ?_
      refine st_cond _ rfl (fun hc3 => ?_) (fun hc3 => ?_)
      · refine run ?_
        refine fin1 ?_
        rw [hmay, show allB P.on.length P.seated = false by
          rw [← Bool.not_eq_true, allB_iff]; intro h; rw [h k hlt] at hc3; simp at hc3]
      · refine run ?_
        refine nextS (k + 1) ⟨by omega, fun j hj => ?_⟩
        rcases Nat.lt_succ_iff_lt_or_eq.1 hj with hj | rfl
        · exact hall3 j hj
        · simpa using hc3
    have hge : k = P.on.length := by simp at hc; omega
    subst hge
    refine run ?_
    refine fin1 ?_
    rw [hmay, allB_iff.2 hall3]
end Go.Proofs.YtdfkcjjbflcafaaGreat
