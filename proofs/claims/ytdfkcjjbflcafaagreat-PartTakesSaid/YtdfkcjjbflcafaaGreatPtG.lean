/- Layer 18 (part): where a page stands among a guest's maps: plain. -/
import Derived.Test.YtdfkcjjbflcafaaGreatPartM
namespace Go.Proofs.YtdfkcjjbflcafaaGreat
open Go.RowKit
set_option linter.unusedVariables false
set_option linter.unusedSimpArgs false
set_option maxRecDepth 20000
namespace PtD
def lowb (l : List MpD) (mid : Int) : Nat := (l.takeWhile fun m => decide (m.mid < mid)).length
def thereB (l : List MpD) (mid : Int) : Bool := decide (lowb l mid < l.length) && decide ((l.getD (lowb l mid) default).mid = mid)
def Sorted (l : List MpD) : Prop := ∀ i j, i < j → j < l.length → (l.getD i default).mid < (l.getD j default).mid
theorem lowb_le (l : List MpD) (mid : Int) : lowb l mid ≤ l.length := by
  induction l with
  | nil => exact Nat.le_refl _
  | cons x r ih =>
    unfold lowb at *
    rw [List.takeWhile_cons]
    cases decide (x.mid < mid) <;> simp <;> omega
theorem lowb_lt : ∀ {l : List MpD} {mid : Int} {k : Nat}, k < lowb l mid → (l.getD k default).mid < mid := by
  intro l mid
  induction l with
  | nil => intro k h; simp [lowb] at h
  | cons x r ih =>
    intro k h
    unfold lowb at h
    rw [List.takeWhile_cons] at h
    by_cases hx : x.mid < mid
    · simp [hx] at h
      cases k with
      | zero => simpa using hx
      | succ k => simpa using ih (k := k) (by unfold lowb; omega)
    · simp [hx] at h
theorem lowb_at : ∀ {l : List MpD} {mid : Int}, lowb l mid < l.length → mid ≤ (l.getD (lowb l mid) default).mid := by
  intro l mid
  induction l with
  | nil => intro h; simp at h
  | cons x r ih =>
    intro h
    unfold lowb at *
    rw [List.takeWhile_cons] at *
    by_cases hx : x.mid < mid
    · simp [hx] at h ⊢
      simpa using ih h
    · simp [hx]; omega
theorem lowb_ge {l : List MpD} {mid : Int} (hs : Sorted l) {k : Nat} (h1 : lowb l mid ≤ k) (h2 : k < l.length) : mid ≤ (l.getD k default).mid := by
  have h3 := lowb_at (l := l) (mid := mid) (by omega)
  rcases Nat.lt_or_ge (lowb l mid) k with h4 | h4
  · have := hs _ _ h4 h2; omega
  · have : k = lowb l mid := by omega
    rw [this]; exact h3
theorem lowb_uniq {l : List MpD} {mid : Int} (hs : Sorted l) {k : Nat} (h0 : k ≤ l.length) (h1 : ∀ j, j < k → (l.getD j default).mid < mid) (h2 : ∀ j, k ≤ j → j < l.length → mid ≤ (l.getD j default).mid) : k = lowb l mid := by
  rcases Nat.lt_trichotomy k (lowb l mid) with h | h | h
  · have := lowb_lt h
    have := h2 k (Nat.le_refl _) (by have := lowb_le l mid; omega)
    omega
  · exact h
  · have := h1 _ h
    have := lowb_ge hs (Nat.le_refl (lowb l mid)) (by omega)
    omega
theorem sorted_of {l : List MpD} (h : ∀ k, k + 1 < l.length → (l.getD k default).mid < (l.getD (k + 1) default).mid) : Sorted l := by
  intro i j hij hj
  induction j with
  | zero => omega
  | succ j ih =>
    rcases Nat.lt_succ_iff_lt_or_eq.1 hij with h1 | rfl
    · have := ih h1 (by omega); have := h j hj; omega
    · exact h i hj
theorem may_sorted {P : PtD} (hm : P.may = true) {i : Nat} (hi : i < 4) : Sorted (P.gs i).maps := by
  have hok := may_ok.1 hm
  cases hl : (P.gs i).live with
  | false =>
    have := (hok.dead i hi hl).2.1
    intro a b _ hb
    omega
  | true =>
    refine sorted_of fun k hk => ?_
    have := (hok.liv i hi hl).2.2.2.2.2.1 (k + 1) hk
    simp only [mapAt, Bool.and_eq_true, Bool.or_eq_true, decide_eq_true_eq, Nat.add_sub_cancel] at this
    rcases this.1.1.2 with h | h
    · omega
    · exact h
theorem may_map {P : PtD} (hm : P.may = true) {i : Nat} (hi : i < 4) {k : Nat} (hk : k < (P.gs i).maps.length) : 0 ≤ ((P.gs i).maps.getD k default).mid ∧ ((P.gs i).maps.getD k default).mid ≤ 15 ∧ 0 ≤ ((P.gs i).maps.getD k default).frm ∧ ((P.gs i).maps.getD k default).frm.toNat < P.pages.length := by
  have hok := may_ok.1 hm
  cases hl : (P.gs i).live with
  | false =>
    have := (hok.dead i hi hl).2.1
    omega
  | true =>
    have := (hok.liv i hi hl).2.2.2.2.2.1 k hk
    simp only [mapAt, btw, Bool.and_eq_true, Bool.or_eq_true, decide_eq_true_eq] at this
    obtain ⟨⟨⟨⟨a, b⟩, _⟩, c, d⟩, _⟩ := this
    exact ⟨a, b, c, by omega⟩
/-- The reference's search. -/
def mappedM (l : List MpD) (mid : Int) : Int := match idx (fun m => decide (m.mid = mid)) l 0 with
  | some i => (i : Int)
  | none => -1
theorem mappedM_at {l : List MpD} {mid : Int} {k : Nat} (hk : k < l.length) (hn : ∀ j, j < k → (l.getD j default).mid ≠ mid) (he : (l.getD k default).mid = mid) : mappedM l mid = (k : Int) := by
  have : ∀ (l : List MpD) (k s : Nat), k < l.length → (∀ j, j < k → (l.getD j default).mid ≠ mid) → (l.getD k default).mid = mid → idx (fun m => decide (m.mid = mid)) l s = some (s + k) := by
    intro l
    induction l with
    | nil => intro k s h; simp at h
    | cons x r ih =>
      intro k s hk hn he
      unfold idx
      cases k with
      | zero => simp at he; simp [he]
      | succ k =>
        have := hn 0 (by omega)
        simp at this
        simp only [this, decide_false, cond_false]
        rw [ih k (s + 1) (by simpa using hk) (fun j hj => by have := hn (j + 1) (by omega); simpa using this) (by simpa using he)]
        congr 1; omega
  rw [mappedM, this l k 0 hk hn he]; simp
theorem mappedM_none {l : List MpD} {mid : Int} (hn : ∀ j, j < l.length → (l.getD j default).mid ≠ mid) : mappedM l mid = -1 := by
  have : ∀ (l : List MpD) (s : Nat), (∀ j, j < l.length → (l.getD j default).mid ≠ mid) → idx (fun m => decide (m.mid = mid)) l s = none := by
    intro l
    induction l with
    | nil => intro s _; rfl
    | cons x r ih =>
      intro s hn
      unfold idx
      have := hn 0 (by simp)
      simp at this
      simp only [this, decide_false, cond_false]
      exact ih (s + 1) fun j hj => by have := hn (j + 1) (by simpa using hj); simpa using this
  rw [mappedM, this l 0 hn]
theorem mappedM_there {l : List MpD} {mid : Int} (hs : Sorted l) : mappedM l mid = if thereB l mid then (lowb l mid : Int) else -1 := by
  split
  · rename_i h
    simp only [thereB, Bool.and_eq_true, decide_eq_true_eq] at h
    exact mappedM_at h.1 (fun j hj => by have := lowb_lt hj; omega) h.2
  · rename_i h
    refine mappedM_none fun j hj he => h ?_
    rcases Nat.lt_or_ge j (lowb l mid) with h1 | h1
    · have := lowb_lt h1; omega
    · have h2 := lowb_ge hs (Nat.le_refl (lowb l mid)) (by omega)
      have h3 : lowb l mid = j := by
        rcases Nat.lt_or_ge (lowb l mid) j with h4 | h4
        · have := hs _ _ h4 hj; omega
        · omega
      simp only [thereB, Bool.and_eq_true, decide_eq_true_eq]
      rw [h3]
      exact ⟨hj, he⟩
end PtD
end Go.Proofs.YtdfkcjjbflcafaaGreat
