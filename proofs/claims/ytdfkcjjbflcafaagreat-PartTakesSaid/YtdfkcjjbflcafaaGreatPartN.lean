/- Layer 18 (part): the reference's test is the same. No program in sight. -/
import Derived.Test.YtdfkcjjbflcafaaGreatPartM
import Derived.IntWalk
namespace Go.Proofs.YtdfkcjjbflcafaaGreat
set_option linter.unusedVariables false
set_option linter.unusedSimpArgs false
namespace PtD
variable {P : PtD}
theorem mappedR_ge {l : List MpD} {f : Int} : decide (mappedR l f ≥ 0) = l.any fun m => decide (m.frm = f) := by
  rw [← idx_any]
  unfold mappedR
  cases idx (fun m => decide (m.frm = f)) l 0 with
  | none => simp
  | some k => simp
theorem mappedR_at {l : List MpD} {k : Nat} (hk : k < l.length) : mappedR l (l.getD k default).frm = (k : Int) ↔ ((l.take k).any fun m => decide (m.frm = (l.getD k default).frm)) = false := by
  have h := idx_at (p := fun m => decide (m.frm = (l.getD k default).frm)) hk (by simp)
  have e1 : mappedR l (l.getD k default).frm = (k : Int) ↔ idx (fun m => decide (m.frm = (l.getD k default).frm)) l 0 = some k := by
    unfold mappedR
    cases idx (fun m => decide (m.frm = (l.getD k default).frm)) l 0 with
    | none => simp <;> omega
    | some j => simp <;> omega
  rw [e1, h, List.any_eq_false]
  constructor
  · intro hj x hx
    obtain ⟨j, hj2, rfl⟩ := List.mem_iff_getElem.1 hx
    simp only [List.length_take] at hj2
    have := hj j (by omega)
    rw [List.getElem_take]
    rw [List.getD_eq_getElem?_getD, List.getElem?_eq_getElem (by omega)] at this
    simpa using this
  · intro hx j hj
    have := hx (l.getD j default) (by
      rw [List.getD_eq_getElem?_getD, List.getElem?_eq_getElem (by omega)]
      exact List.mem_iff_getElem.2 ⟨j, by simp; omega, by simp⟩)
    simpa using this
theorem mapR_eq {l : List MpD} {N k : Nat} (hk : k < l.length) : mapR l N k = mapAt l N k := by
  have h := mappedR_at hk
  rw [Bool.eq_iff_iff]
  unfold mapR mapAt btw
  cases ha : ((l.take k).any fun m => decide (m.frm = (l.getD k default).frm)) with
  | false =>
    have := h.2 ha
    simp only [this, Bool.not_eq_true', Bool.or_eq_false_iff, Bool.and_eq_true, Bool.or_eq_true, decide_eq_true_eq, decide_eq_false_iff_not, Bool.not_eq_false', Bool.and_eq_false_iff, Bool.not_false, ne_eq, not_true_eq_false, and_true]
    generalize (l.getD k default).mid = a, (l.getD k default).frm = b, (l.getD (k - 1) default).mid = c
    constructor
    · rintro ⟨⟨⟨h1, h2⟩, h3⟩, h4⟩ <;> omega
    · rintro ⟨⟨h1, h2⟩, h3⟩
      exact ⟨⟨⟨h1, by omega⟩, h3⟩, id⟩
  | true =>
    have : mappedR l (l.getD k default).frm ≠ (k : Int) := fun e => by have := h.1 e; rw [ha] at this; cases this
    simp only [this, Bool.not_eq_true', Bool.or_eq_false_iff, Bool.and_eq_true, Bool.or_eq_true, decide_eq_true_eq, decide_eq_false_iff_not, Bool.not_eq_false', Bool.and_eq_false_iff, Bool.not_true, ne_eq, not_true_eq_false, and_false, Bool.false_eq_true, not_false_eq_true]
theorem vcpuR_eq {i k : Nat} : P.vcpuR i k = P.vcpuAt i k := by
  rw [Bool.eq_iff_iff]
  unfold vcpuR vcpuAt btw
  generalize (P.gs i).vcpus.getD k 0 = c
  simp only [Bool.not_eq_true', Bool.or_eq_false_iff, Bool.and_eq_true, Bool.or_eq_true, decide_eq_true_eq, decide_eq_false_iff_not, Bool.not_eq_false', Bool.and_eq_false_iff]
  omega
theorem guestR_eq (g4 : P.guests.length = 4) {vm : Int} : P.guestR vm = P.lives vm := by
  rw [Bool.eq_iff_iff]
  unfold guestR lives btw
  simp only [Bool.and_eq_true, decide_eq_true_eq, g4]
  constructor <;> (rintro ⟨⟨a, b⟩, c⟩; exact ⟨⟨by omega, by omega⟩, c⟩)
theorem seatR_eq (g4 : P.guests.length = 4) {c : Nat} : P.seatR c = P.seated c := by
  rw [Bool.eq_iff_iff]
  unfold seatR seated btw
  rw [guestR_eq g4]
  by_cases h : (P.st c).vm = 0
  · simp only [h, decide_true, cond_true, ne_eq, not_true_eq_false, decide_false, Bool.false_and, Bool.or_false, Bool.true_and, Bool.not_eq_true', decide_eq_false_iff_not, decide_eq_true_eq, Decidable.not_not]
  · simp only [h, decide_false, cond_false, ne_eq, not_false_eq_true, decide_true, Bool.false_and, Bool.false_or, Bool.true_and]
    cases hl : P.lives (P.st c).vm with
    | false => simp
    | true =>
      simp only [Bool.not_true, Bool.false_or, Bool.true_and, Bool.not_eq_true', Bool.or_eq_false_iff, decide_eq_false_iff_not, Bool.and_eq_true, decide_eq_true_eq, Decidable.not_not]
      omega
/-- The firsts of what lives are small. -/
def Firsts (P : PtD) : Prop := ∀ i, i < 4 → (P.gs i).live = true → 16 ≤ (P.gs i).first ∧ (P.gs i).first ≤ 59
theorem within_iff (h : Firsts P) {f : Int} (h0 : 0 ≤ f) (h1 : f ≤ 64) {i : Nat} (hi : i < 4) : within f (P.gs i) = true ↔ ((P.gs i).live = true ∧ (P.gs i).first ≤ f ∧ f < (P.gs i).first + 5) := by
  unfold within
  cases hl : (P.gs i).live with
  | false => simp
  | true =>
    have := h i hi hl
    rw [wrap_in (by omega) (by omega)]
    simp only [Bool.true_and, Bool.and_eq_true, decide_eq_true_eq, true_and]
    omega
theorem tablesR_pos (h : Firsts P) (g4 : P.guests.length = 4) {f : Int} (h0 : 0 ≤ f) (h1 : f ≤ 64) : P.tablesR f > 0 ↔ ∃ i, i < 4 ∧ (P.gs i).live = true ∧ (P.gs i).first ≤ f ∧ f < (P.gs i).first + 5 := by
  unfold tablesR
  cases e : idx (within f) P.guests 0 with
  | none =>
    have hn := idx_none e
    simp only [show ¬ ((0 : Int) > 0) by omega, false_iff]
    rintro ⟨i, hi, hw⟩
    have h2 := (within_iff h h0 h1 hi).2 hw
    have h3 := hn i (by omega)
    rw [show P.guests.getD i default = P.gs i from rfl, h2] at h3
    cases h3
  | some k =>
    obtain ⟨_, h2, h3, _⟩ := idx_some e
    simp only [Nat.sub_zero] at h2 h3
    refine ⟨fun _ => ⟨k, by omega, (within_iff h h0 h1 (by omega)).1 h3⟩, fun _ => by show (k : Int) + 1 > 0; omega⟩
theorem tablesR_at (h : Firsts P) (g4 : P.guests.length = 4) {f : Int} (h0 : 0 ≤ f) (h1 : f ≤ 64) {i : Nat} (hi : i < 4) (hw : (P.gs i).live = true ∧ (P.gs i).first ≤ f ∧ f < (P.gs i).first + 5) :
    P.tablesR f = (i : Int) + 1 ↔ ∀ j, j < i → ¬ ((P.gs j).live = true ∧ (P.gs j).first ≤ f ∧ f < (P.gs j).first + 5) := by
  have key := idx_at (p := within f) (l := P.guests) (k := i) (by omega) ((within_iff h h0 h1 hi).2 hw)
  have e1 : P.tablesR f = (i : Int) + 1 ↔ idx (within f) P.guests 0 = some i := by
    unfold tablesR
    cases idx (within f) P.guests 0 with
    | none => simp <;> omega
    | some j => simp <;> omega
  rw [e1, key]
  constructor
  · intro hj j hji hc
    have h2 := (within_iff h h0 h1 (by omega : j < 4)).2 hc
    have h3 := hj j hji
    rw [show P.guests.getD j default = P.gs j from rfl, h2] at h3
    cases h3
  · intro hj j hji
    cases hb : within f (P.guests.getD j default) with
    | false => rfl
    | true => exact absurd ((within_iff h h0 h1 (by omega : j < 4)).1 hb) (hj j hji)
theorem mayR_ok : P.mayR = true ↔ Ok P := by
  constructor
  · intro h
    simp only [mayR, Bool.and_eq_true, Bool.not_eq_true', Bool.or_eq_false_iff, decide_eq_false_iff_not, allB_iff, ne_eq, Decidable.not_not] at h
    obtain ⟨⟨⟨⟨⟨⟨⟨n0, n1⟩, g4⟩, o1⟩, o3⟩, hp⟩, hg⟩, hs⟩ := h
    have hlive : ∀ i, i < 4 → (P.gs i).live = true → _ := fun i hi hl => by
      have := hg i hi
      simp only [oneR, hl, cond_true, Bool.and_eq_true, Bool.not_eq_true', Bool.or_eq_false_iff, decide_eq_true_eq, decide_eq_false_iff_not, allB_iff, g4] at this
      exact this
    have hF : Firsts P := fun i hi hl => by
      obtain ⟨⟨⟨⟨⟨⟨⟨⟨a, b⟩, c⟩, d⟩, e⟩, f⟩, g⟩, m⟩, u⟩ := hlive i hi hl
      omega
    have hhyp : ∀ f, f < P.pages.length → (P.hypR f = true ↔ (f < 16 ∨ ∃ i, i < 4 ∧ (P.gs i).live = true ∧ (P.gs i).first ≤ f ∧ f < (P.gs i).first + 5)) := by
      intro f hf
      simp only [hypR, Bool.or_eq_true, decide_eq_true_eq]
      rw [tablesR_pos hF g4 (by omega) (by omega)]
    have hpage : ∀ f, f < P.pages.length → _ := fun f hf => by
      have := hp f hf
      simp only [pageR, Bool.and_eq_true, Bool.not_eq_true', Bool.or_eq_false_iff] at this
      exact this
    have hown : ∀ f, f < P.pages.length → ((P.pg f).own = -1 ↔ P.hypR f = true) := by
      intro f hf
      obtain ⟨⟨⟨⟨⟨a, b⟩, c⟩, d, e⟩, g, k⟩, m⟩ := hpage f hf
      simp only [bne_eq_false_iff_eq] at d
      rw [d, decide_eq_true_eq]
    have hw2 : ∀ f, f < P.pages.length → (P.pg f).own = -1 → (P.pg f).wit = -2 := by
      intro f hf ho
      obtain ⟨⟨⟨⟨⟨a, b⟩, c⟩, d, e⟩, g, k⟩, m⟩ := hpage f hf
      rw [(hown f hf).1 ho] at e
      simpa using e
    have hgst : ∀ f, f < P.pages.length → 0 < (P.pg f).own → (P.pg f).wit = -2 ∨ ((P.pg f).wit = 0 ∧ P.lives (P.pg f).own = true) := by
      intro f hf ho
      obtain ⟨⟨⟨⟨⟨a, b⟩, c⟩, d, e⟩, g, k⟩, m⟩ := hpage f hf
      simp only [who, Bool.not_eq_false', Bool.and_eq_true, decide_eq_true_eq] at a
      simp only [show (P.pg f).own > 0 from ho, decide_true, Bool.true_and, Bool.and_eq_false_iff, decide_eq_false_iff_not, ne_eq, Decidable.not_not, Bool.not_eq_false', Bool.or_eq_false_iff] at k m
      rcases k with k | k
      · exact .inl k
      · rcases m with m | m
        · refine .inr ⟨k, ?_⟩
          simp only [lives, btw, Bool.and_eq_true, decide_eq_true_eq]
          exact ⟨by omega, m⟩
        · exact .inl m.2
    refine ⟨by omega, by omega, g4, by omega, by omega, ?_, ?_, ?_, ?_, hw2, ?_, ?_, hgst, ?_⟩
    · intro i hi hl
      have := hg i hi
      simp only [oneR, hl, cond_false, Bool.and_eq_true, decide_eq_true_eq, beq_iff_eq] at this
      exact ⟨this.1.1.2, this.1.2, this.1.1.1, this.2⟩
    · intro i hi hl
      obtain ⟨⟨⟨⟨⟨⟨⟨⟨a, b⟩, c⟩, d⟩, e⟩, f⟩, g⟩, m⟩, u⟩ := hlive i hi hl
      refine ⟨a, by omega, by omega, by omega, fun v hv => by rw [← vcpuR_eq]; exact g v hv, fun k hk => by rw [← mapR_eq hk]; exact m k hk, fun f' hf' => ?_⟩
      have := u f' hf'
      simp only [useR, beq_iff_eq] at this
      rw [mappedR_ge] at this
      rw [← this, Bool.eq_iff_iff]
      simp only [uses, Bool.or_eq_true, Bool.and_eq_true, decide_eq_true_eq]
      constructor
      · rintro (h | ⟨h, h2⟩)
        · exact .inl h
        · exact .inr h2
      · rintro (h | h)
        · exact .inl h
        · by_cases h0 : (P.pg f').own = 0
          · exact .inr ⟨h0, h⟩
          · obtain ⟨⟨⟨⟨⟨a1, _⟩, _⟩, _, _⟩, _, _⟩, _⟩ := hpage f' hf'
            simp only [who, Bool.not_eq_false', Bool.and_eq_true, decide_eq_true_eq] at a1
            by_cases h1 : (P.pg f').own = -1
            · have := hw2 f' hf' h1; omega
            · rcases hgst f' hf' (by omega) with h3 | ⟨h3, _⟩ <;> omega
    · intro i j hij hj hi' hj'
      obtain ⟨⟨⟨⟨⟨⟨⟨⟨a, b⟩, c⟩, d⟩, e⟩, f⟩, g⟩, m⟩, u⟩ := hlive i (by omega) hi'
      have := f (j - (i + 1)) (by omega)
      rw [show i + 1 + (j - (i + 1)) = j by omega] at this
      have hf1 := hF i (by omega) hi'
      have hf2 := hF j hj hj'
      simp only [apartR, hj', Bool.true_and, Bool.not_eq_true', Bool.and_eq_false_iff, decide_eq_false_iff_not] at this
      rw [wrap_in (by omega) (by omega)] at this
      omega
    · intro f hf
      rw [hown f hf, hhyp f hf]
    · intro f hf
      obtain ⟨⟨⟨⟨⟨a, b⟩, c⟩, d, e⟩, g, k⟩, m⟩ := hpage f hf
      simp only [who, Bool.not_eq_false', Bool.and_eq_true, decide_eq_true_eq] at a
      exact a
    · intro f hf ho
      obtain ⟨⟨⟨⟨⟨a, b⟩, c⟩, d, e⟩, g, k⟩, m⟩ := hpage f hf
      simp only [who, Bool.and_eq_false_iff, Bool.not_eq_false', Bool.and_eq_true, decide_eq_true_eq, decide_eq_false_iff_not, ne_eq, Decidable.not_not, ho, guestR_eq g4] at b c g
      by_cases h2 : (P.pg f).wit = -2
      · exact .inl h2
      · by_cases h1 : (P.pg f).wit = -1
        · exact .inr (.inl h1)
        · right; right
          rcases g with (g | g) | g
          · exact absurd trivial g
          · omega
          · exact g
    · intro c hc
      rw [← seatR_eq g4]
      exact hs c hc
  · intro h
    have hF : Firsts P := fun i hi hl => by obtain ⟨a, b, c, _⟩ := h.liv i hi hl; have := h.n1; omega
    have hn1 := h.n1
    have hhyp : ∀ f, f < P.pages.length → (P.hypR f = true ↔ (P.pg f).own = -1) := by
      intro f hf
      rw [h.hyp f hf]
      simp only [hypR, Bool.or_eq_true, decide_eq_true_eq]
      rw [tablesR_pos hF h.g4 (by omega) (by omega)]
    simp only [mayR, Bool.and_eq_true, Bool.not_eq_true', Bool.or_eq_false_iff, decide_eq_false_iff_not, allB_iff, ne_eq, Decidable.not_not]
    refine ⟨⟨⟨⟨⟨⟨⟨by have := h.n0; omega, by omega⟩, h.g4⟩, by have := h.o1; omega⟩, by have := h.o3; omega⟩, ?_⟩, ?_⟩, fun c hc => by rw [seatR_eq h.g4]; exact h.seat c hc⟩
    · intro f hf
      have hw := h.who f hf
      have e1 : P.hypR f = decide ((P.pg f).own = -1) := by rw [Bool.eq_iff_iff, hhyp f hf, decide_eq_true_eq]
      simp only [pageR, e1, guestR_eq h.g4, who]
      by_cases ho : (P.pg f).own = -1
      · have := h.hypw f hf ho
        simp [ho, this]
      · by_cases h0 : (P.pg f).own = 0
        · have hh := h.host f hf h0
          simp only [lives, btw, Bool.and_eq_true, decide_eq_true_eq] at hh
          rcases hh with hh | hh | hh
          · simp [h0, hh]
          · simp [h0, hh]
          · have h2 : ¬ (P.pg f).wit = -2 := by omega
            have h3 : ¬ (P.pg f).wit = 0 := by omega
            have h4 : (P.pg f).wit > 0 := by omega
            have h5 : P.lives (P.pg f).wit = true := by simp only [lives, btw, Bool.and_eq_true, decide_eq_true_eq]; exact hh
            have h6 : -1 ≤ (P.pg f).wit := by omega
            have h7 : (P.pg f).wit ≤ 4 := by omega
            simp [h0, h2, h3, h4, h5, h6, h7]
        · have hpos : (P.pg f).own > 0 := by omega
          have hh := h.guest f hf hpos
          rcases hh with hh | ⟨hh, hl⟩
          · have hd : (P.gs ((P.pg f).own - 1).toNat).live = true ∨ (P.gs ((P.pg f).own - 1).toNat).dying = true := by
              cases hl : (P.gs ((P.pg f).own - 1).toNat).live with
              | true => exact .inl rfl
              | false =>
                right
                have := (h.dead ((P.pg f).own - 1).toNat (by omega) hl).2.2.2
                rw [this]
                simp only [owns, List.any_eq_true, decide_eq_true_eq]
                refine ⟨P.pg f, ?_, by omega⟩
                unfold pg
                rw [List.getD_eq_getElem?_getD, List.getElem?_eq_getElem hf]
                simp
            have h8 : ¬ (-2 : Int) = (P.pg f).own := by omega
            generalize P.gs ((P.pg f).own - 1).toNat = G at hd ⊢
            rcases hd with hd | hd <;> simp [hh, ho, h0, hd, hw.1, hw.2, hpos, h8]
          · have h5 : (P.gs ((P.pg f).own - 1).toNat).live = true := by simp only [lives, Bool.and_eq_true] at hl; exact hl.2
            have h8 : ¬ (0 : Int) = (P.pg f).own := by omega
            generalize P.gs ((P.pg f).own - 1).toNat = G at h5 ⊢
            simp [hh, ho, h0, h5, hw.1, hw.2, hpos, h8]
    · intro i hi
      cases hl : (P.gs i).live with
      | false =>
        obtain ⟨a, b, c, d⟩ := h.dead i hi hl
        simp [oneR, hl, a, b, c, d]
      | true =>
        obtain ⟨a, b, c, d, e, m, u⟩ := h.liv i hi hl
        simp only [oneR, hl, cond_true, Bool.and_eq_true, Bool.not_eq_true', Bool.or_eq_false_iff, decide_eq_true_eq, decide_eq_false_iff_not, allB_iff, h.g4]
        refine ⟨⟨⟨⟨⟨⟨⟨⟨a, by omega⟩, by omega⟩, by omega⟩, ?_⟩, ?_⟩, fun v hv => by rw [vcpuR_eq]; exact e v hv⟩, fun k hk => by rw [mapR_eq hk]; exact m k hk⟩, ?_⟩
        · intro k hk
          rw [tablesR_at hF h.g4 (by omega) (by omega) hi ⟨hl, by omega, by omega⟩]
          rintro j hj ⟨hlj, h1, h2⟩
          rcases h.apart j i hj hi hlj hl with h3 | h3 <;> omega
        · intro k hk
          cases hlj : (P.gs (i + 1 + k)).live with
          | false => simp [apartR, hlj]
          | true =>
            have hf1 := hF i hi hl
            have hf2 := hF (i + 1 + k) (by omega) hlj
            have := h.apart i (i + 1 + k) (by omega) (by omega) hl hlj
            simp only [apartR, hlj, Bool.true_and, Bool.not_eq_true', Bool.and_eq_false_iff, decide_eq_false_iff_not]
            rw [wrap_in (by omega) (by omega)]
            omega
        · intro f hf
          simp only [useR, beq_iff_eq]
          rw [mappedR_ge, u f hf, Bool.eq_iff_iff]
          simp only [uses, Bool.or_eq_true, Bool.and_eq_true, decide_eq_true_eq]
          constructor
          · rintro (h | ⟨h, h2⟩)
            · exact .inl h
            · exact .inr h2
          · rintro (h1 | h1)
            · exact .inl h1
            · have hw := h.who f hf
              by_cases h0 : (P.pg f).own = 0
              · exact .inr ⟨h0, h1⟩
              · by_cases h2 : (P.pg f).own = -1
                · have := h.hypw f hf h2; omega
                · rcases h.guest f hf (by omega) with h3 | ⟨h3, _⟩ <;> omega
/-- The program's test of a partition is the reference's. -/
theorem may_eq : P.may = P.mayR := by rw [Bool.eq_iff_iff, may_ok, mayR_ok]
end PtD
end Go.Proofs.YtdfkcjjbflcafaaGreat
