/- Layer 18 (part): the program's test and the reference's are one. No program in sight. -/
import Derived.Test.YtdfkcjjbflcafaaGreatPartL
namespace Go.Proofs.YtdfkcjjbflcafaaGreat
set_option linter.unusedVariables false
set_option linter.unusedSimpArgs false
namespace PtD
variable {P : PtD}
theorem idx_some {α : Type} [Inhabited α] {p : α → Bool} : ∀ {l : List α} {i k : Nat}, idx p l i = some k → i ≤ k ∧ k - i < l.length ∧ p (l.getD (k - i) default) = true ∧ ∀ j, j < k - i → p (l.getD j default) = false := by
  intro l
  induction l with
  | nil => intro i k h; cases h
  | cons x r ih =>
    intro i k h
    simp only [idx] at h
    cases hp : p x with
    | true =>
      rw [hp] at h
      simp only [cond_true, Option.some.injEq] at h
      subst h
      refine ⟨Nat.le_refl _, by simp, by simpa using hp, fun j hj => by omega⟩
    | false =>
      rw [hp] at h
      obtain ⟨h1, h2, h3, h4⟩ := ih h
      have e : k - i = (k - (i + 1)) + 1 := by omega
      refine ⟨by omega, by simp; omega, by rw [e]; simpa using h3, fun j hj => ?_⟩
      cases j with
      | zero => simpa using hp
      | succ j => have := h4 j (by omega); simpa using this
theorem idx_none {α : Type} [Inhabited α] {p : α → Bool} : ∀ {l : List α} {i : Nat}, idx p l i = none → ∀ j, j < l.length → p (l.getD j default) = false := by
  intro l
  induction l with
  | nil => intro i h j hj; simp at hj
  | cons x r ih =>
    intro i h j hj
    simp only [idx] at h
    cases hp : p x with
    | true => rw [hp] at h; cases h
    | false =>
      rw [hp] at h
      cases j with
      | zero => simpa using hp
      | succ j => have := ih h j (by simp at hj; omega); simpa using this
/-- The first place where p holds is k. -/
theorem idx_at {α : Type} [Inhabited α] {p : α → Bool} {l : List α} {k : Nat} (hk : k < l.length) (h : p (l.getD k default) = true) : idx p l 0 = some k ↔ ∀ j, j < k → p (l.getD j default) = false := by
  constructor
  · intro e; have := idx_some e; simpa using this.2.2.2
  · intro hj
    cases e : idx p l 0 with
    | none => have := idx_none e k hk; rw [h] at this; cases this
    | some m =>
      obtain ⟨_, h2, h3, h4⟩ := idx_some e
      simp only [Nat.sub_zero] at h2 h3 h4
      rcases Nat.lt_trichotomy m k with hlt | rfl | hgt
      · have := hj m hlt; rw [h3] at this; cases this
      · rfl
      · have := h4 k hgt; rw [h] at this; cases this
theorem idx_any {α : Type} [Inhabited α] {p : α → Bool} {l : List α} : (idx p l 0).isSome = l.any p := by
  rw [Bool.eq_iff_iff, List.any_eq_true]
  constructor
  · intro h
    obtain ⟨k, e⟩ := Option.isSome_iff_exists.1 h
    obtain ⟨_, h2, h3, _⟩ := idx_some e
    simp only [Nat.sub_zero] at h2 h3
    refine ⟨_, ?_, h3⟩
    rw [List.getD_eq_getElem?_getD, List.getElem?_eq_getElem h2]
    simp
  · rintro ⟨x, hx, hp⟩
    cases e : idx p l 0 with
    | some k => rfl
    | none =>
      obtain ⟨j, hj, rfl⟩ := List.mem_iff_getElem.1 hx
      have := idx_none e j hj
      rw [List.getD_eq_getElem?_getD, List.getElem?_eq_getElem hj] at this
      simp [hp] at this
structure Ok (P : PtD) : Prop where
  n0 : 24 ≤ P.pages.length
  n1 : P.pages.length ≤ 64
  g4 : P.guests.length = 4
  o1 : 1 ≤ P.on.length
  o3 : P.on.length ≤ 3
  dead : ∀ i, i < 4 → (P.gs i).live = false → (P.gs i).vcpus.length = 0 ∧ (P.gs i).maps.length = 0 ∧ (P.gs i).first = 0 ∧ (P.gs i).dying = P.owns ((i : Int) + 1)
  liv : ∀ i, i < 4 → (P.gs i).live = true → (P.gs i).dying = false ∧ 16 ≤ (P.gs i).first ∧ (P.gs i).first ≤ (P.pages.length : Int) - 5 ∧ (P.gs i).vcpus.length ≤ 2 ∧ (∀ v, v < (P.gs i).vcpus.length → P.vcpuAt i v = true) ∧
    (∀ k, k < (P.gs i).maps.length → mapAt (P.gs i).maps P.pages.length k = true) ∧ (∀ f, f < P.pages.length → ((P.gs i).maps.any fun m => decide (m.frm = (f : Int))) = P.uses ((i : Int) + 1) f)
  apart : ∀ i j, i < j → j < 4 → (P.gs i).live = true → (P.gs j).live = true → (P.gs i).first + 5 ≤ (P.gs j).first ∨ (P.gs j).first + 5 ≤ (P.gs i).first
  hyp : ∀ f, f < P.pages.length → ((P.pg f).own = -1 ↔ (f < 16 ∨ ∃ i, i < 4 ∧ (P.gs i).live = true ∧ (P.gs i).first ≤ f ∧ f < (P.gs i).first + 5))
  hypw : ∀ f, f < P.pages.length → (P.pg f).own = -1 → (P.pg f).wit = -2
  who : ∀ f, f < P.pages.length → -1 ≤ (P.pg f).own ∧ (P.pg f).own ≤ 4
  host : ∀ f, f < P.pages.length → (P.pg f).own = 0 → (P.pg f).wit = -2 ∨ (P.pg f).wit = -1 ∨ P.lives (P.pg f).wit = true
  guest : ∀ f, f < P.pages.length → 0 < (P.pg f).own → (P.pg f).wit = -2 ∨ ((P.pg f).wit = 0 ∧ P.lives (P.pg f).own = true)
  seat : ∀ c, c < P.on.length → P.seated c = true
theorem taken_any {k : Nat} {x : Int} : ((P.taken k).any fun t => decide (t = x)) = true ↔ ∃ i, i < k ∧ (P.gs i).live = true ∧ (P.gs i).first ≤ x ∧ x < (P.gs i).first + 5 := by
  simp only [taken, List.any_eq_true, List.mem_flatMap, List.mem_range, decide_eq_true_eq]
  constructor
  · rintro ⟨t, ⟨i, hi, hm⟩, rfl⟩
    unfold rows at hm
    cases hl : (P.gs i).live with
    | false => rw [hl] at hm; simp at hm
    | true =>
      rw [hl] at hm
      simp only [cond_true, List.mem_cons, List.not_mem_nil, or_false] at hm
      exact ⟨i, hi, hl, by omega, by omega⟩
  · rintro ⟨i, hi, hl, h1, h2⟩
    refine ⟨x, ⟨i, hi, ?_⟩, rfl⟩
    unfold rows
    rw [hl]
    simp only [cond_true, List.mem_cons, List.not_mem_nil, or_false]
    omega
theorem may_ok : P.may = true ↔ Ok P := by
  constructor
  · intro h
    simp only [may, Bool.and_eq_true, decide_eq_true_eq, allB_iff] at h
    obtain ⟨⟨⟨⟨⟨⟨h0, h1⟩, hg⟩, ho, ho'⟩, hr⟩, hp⟩, hs⟩ := h
    have hguest : ∀ i, i < 4 → P.guested i = true := fun i hi => by have := hr i hi; simp only [round, Bool.and_eq_true] at this; exact this.1
    have hfresh : ∀ i, i < 4 → (P.gs i).live = true → ∀ k : Nat, k < 5 → ¬ ∃ j, j < i ∧ (P.gs j).live = true ∧ (P.gs j).first ≤ (P.gs i).first + (k : Int) ∧ (P.gs i).first + (k : Int) < (P.gs j).first + 5 := by
      intro i hi hl k hk
      have := hr i hi
      simp only [round, Bool.and_eq_true, hl, Bool.not_true, Bool.false_or, allB_iff] at this
      have := this.2 k hk
      rw [← taken_any]
      intro hc
      rw [hc] at this
      cases this
    have hlive : ∀ i, i < 4 → (P.gs i).live = true → _ := fun i hi hl => by
      have := hguest i hi
      simp only [guested, hl, cond_true, Bool.and_eq_true, decide_eq_true_eq, allB_iff, btw, Bool.not_eq_true', mapped, beq_iff_eq] at this
      exact this
    refine ⟨h0, h1, hg, ho, ho', ?_, ?_, ?_, ?_, ?_, ?_, ?_, ?_, hs⟩
    · intro i hi hl
      have := hguest i hi
      simp only [guested, hl, cond_false, Bool.and_eq_true, decide_eq_true_eq, beq_iff_eq] at this
      exact ⟨this.1.1.1, this.1.1.2, this.1.2, this.2⟩
    · intro i hi hl
      obtain ⟨⟨⟨⟨⟨a, b⟩, c⟩, d, d'⟩, e⟩, f⟩ := hlive i hi hl
      exact ⟨a, b.1, b.2, c, f, d, d'⟩
    · intro i j hij hj hi' hj'
      have k0 := hfresh j hj hj' 0 (by omega)
      have k4 := hfresh j hj hj' 4 (by omega)
      rcases Int.lt_or_le (P.gs j).first ((P.gs i).first + 5) with hlt | hge
      · right
        rcases Int.lt_or_le (P.gs i).first ((P.gs j).first + 5) with h2 | h2
        · exfalso
          rcases Int.lt_or_le (P.gs j).first (P.gs i).first with h3 | h3
          · exact k4 ⟨i, hij, hi', by omega, by omega⟩
          · exact k0 ⟨i, hij, hi', by omega, by omega⟩
        · omega
      · exact .inl hge
    · intro f hf
      have := hp f hf
      simp only [paged] at this
      constructor
      · intro ho1
        simp only [ho1, decide_true, Bool.or_true, cond_true, Bool.and_eq_true, decide_eq_true_eq, Bool.or_eq_true] at this
        rcases this.2 with h | h
        · exact .inl h
        · exact .inr ((taken_any (x := (f : Int))).1 h)
      · rintro (h16 | ⟨i, hi, hl, hf1, hf2⟩)
        · simp only [h16, decide_true, Bool.true_or, cond_true, Bool.and_eq_true, decide_eq_true_eq] at this
          exact this.1.1
        · obtain ⟨⟨⟨⟨⟨a, b⟩, c⟩, d, d'⟩, e⟩, f'⟩ := hlive i hi hl
          have := e (f - (P.gs i).first.toNat) (by omega)
          rw [show (P.gs i).first.toNat + (f - (P.gs i).first.toNat) = f by omega] at this
          exact this.1
    · intro f hf ho1
      have := hp f hf
      simp only [paged, ho1, decide_true, Bool.or_true, cond_true, Bool.and_eq_true, decide_eq_true_eq] at this
      exact this.1.2
    · intro f hf
      have := hp f hf
      simp only [paged] at this
      by_cases h16 : f < 16 ∨ (P.pg f).own = -1
      · have e : (decide (f < 16) || decide ((P.pg f).own = -1)) = true := by simpa using h16
        rw [e] at this
        simp only [cond_true, Bool.and_eq_true, decide_eq_true_eq] at this
        omega
      · have e : (decide (f < 16) || decide ((P.pg f).own = -1)) = false := by simpa using h16
        rw [e] at this
        simp only [cond_false] at this
        by_cases h0 : (P.pg f).own = 0
        · omega
        · simp only [h0, decide_false, cond_false] at this
          cases hb : btw (P.pg f).own 1 4 with
          | false => rw [hb] at this; simp at this
          | true => simp only [btw, Bool.and_eq_true, decide_eq_true_eq] at hb; omega
    · intro f hf ho0
      have := hp f hf
      simp only [paged, ho0] at this
      cases h16 : decide (f < 16) with
      | true => rw [h16] at this; simp at this
      | false => rw [h16] at this; simpa [or_assoc] using this
    · intro f hf ho0
      have := hp f hf
      simp only [paged] at this
      cases h16 : (decide (f < 16) || decide ((P.pg f).own = -1)) with
      | true => rw [h16] at this; simp only [cond_true, Bool.and_eq_true, decide_eq_true_eq] at this; omega
      | false =>
        rw [h16] at this
        simp only [cond_false, show ¬ (P.pg f).own = 0 by omega, decide_false] at this
        cases hb : btw (P.pg f).own 1 4 with
        | false => rw [hb] at this; simp at this
        | true => rw [hb] at this; simpa using this
  · intro h
    simp only [may, Bool.and_eq_true, decide_eq_true_eq, allB_iff]
    refine ⟨⟨⟨⟨⟨⟨h.n0, h.n1⟩, h.g4⟩, h.o1, h.o3⟩, ?_⟩, ?_⟩, h.seat⟩
    · intro i hi
      simp only [round, Bool.and_eq_true]
      cases hl : (P.gs i).live with
      | false =>
        obtain ⟨a, b, c, d⟩ := h.dead i hi hl
        simp [guested, hl, a, b, c, d]
      | true =>
        obtain ⟨a, b, c, d, e, f, g⟩ := h.liv i hi hl
        simp only [guested, hl, cond_true, Bool.and_eq_true, decide_eq_true_eq, allB_iff, btw, Bool.not_eq_true', mapped, beq_iff_eq, Bool.not_true, Bool.false_or]
        refine ⟨⟨⟨⟨⟨⟨a, b, c⟩, d⟩, f, g⟩, ?_⟩, e⟩, ?_⟩
        · intro k hk
          have hlt : (P.gs i).first.toNat + k < P.pages.length := by omega
          have ho1 := (h.hyp _ hlt).2 (.inr ⟨i, hi, hl, by omega, by omega⟩)
          exact ⟨ho1, h.hypw _ hlt ho1⟩
        · intro k hk
          cases ht : ((P.taken i).any fun t => decide (t = (P.gs i).first + (k : Int))) with
          | false => rfl
          | true =>
            exfalso
            obtain ⟨j, hj, hlj, h1, h2⟩ := taken_any.1 ht
            rcases h.apart j i hj hi hlj hl with h3 | h3 <;> omega
    · intro f hf
      simp only [paged]
      cases h16 : (decide (f < 16) || decide ((P.pg f).own = -1)) with
      | true =>
        simp only [cond_true, Bool.and_eq_true, decide_eq_true_eq, Bool.or_eq_true] at h16 ⊢
        have ho1 : (P.pg f).own = -1 := by
          rcases h16 with h16 | h16
          · exact (h.hyp f hf).2 (.inl h16)
          · exact h16
        refine ⟨⟨ho1, h.hypw f hf ho1⟩, ?_⟩
        rcases (h.hyp f hf).1 ho1 with h2 | h2
        · exact .inl h2
        · exact .inr ((taken_any (x := (f : Int))).2 h2)
      | false =>
        simp only [cond_false]
        by_cases h0 : (P.pg f).own = 0
        · simp only [h0, decide_true, cond_true]
          have := h.host f hf h0
          simpa [or_assoc] using this
        · have hw := h.who f hf
          simp only [Bool.or_eq_false_iff, decide_eq_false_iff_not] at h16
          have hb : btw (P.pg f).own 1 4 = true := by simp only [btw, Bool.and_eq_true, decide_eq_true_eq]; omega
          simp only [h0, decide_false, cond_false, hb, cond_true]
          have := h.guest f hf (by omega)
          simpa using this
end PtD
end Go.Proofs.YtdfkcjjbflcafaaGreat
