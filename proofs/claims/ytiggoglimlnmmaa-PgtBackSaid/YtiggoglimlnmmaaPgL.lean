/- Layer 16: all that is mapped: the document's, the program's. -/
import Derived.Test.YtiggoglimlnmmaaPgK
namespace Go.Proofs.Ytiggoglimlnmmaa
open Go.RowKit
set_option linter.unusedVariables false
set_option linter.unusedSimpArgs false
set_option maxRecDepth 20000
theorem walk_grow {ws : List Nat} {p down : Nat} : ∀ (k level : Nat) (f : Int) (fs : List Int) (d : DsD), fs.length ≤ (walkL ws p down k level f fs d).fs.length := by
  intro k
  induction k with
  | zero => intro level f fs d; exact Nat.le_refl _
  | succ k ih =>
    intro level f fs d
    rw [walkL]
    cases hasF ws.length f with
    | false => exact Nat.le_refl _
    | true =>
      simp only [cond_true]
      cases (!decide ((dAt ws (atN f level p) level).kind = 1) || decide (level = down)) with
      | true => simp
      | false =>
        have := ih (level + 1) (dAt ws (atN f level p) level).frame (fs ++ [f]) (dAt ws (atN f level p) level)
        rw [List.length_append] at this
        simp only [cond_false]
        omega
/-- Pages that are alike on the way are walked alike. -/
theorem walk_same {ws : List Nat} {p q : Nat} : ∀ (k level : Nat) (f : Int) (fs : List Int) (d : DsD), fs.length = level → (∀ l, level ≤ l → l < (walkL ws p 3 k level f fs d).fs.length → indexN l q = indexN l p) → walkL ws q 3 k level f fs d = walkL ws p 3 k level f fs d := by
  intro k
  induction k with
  | zero => intro level f fs d _ _; rfl
  | succ k ih =>
    intro level f fs d hfs h
    have hg : hasF ws.length f = true → level < (walkL ws p 3 (k + 1) level f fs d).fs.length := fun hh => by
      rw [walkL, hh]
      simp only [cond_true]
      cases (!decide ((dAt ws (atN f level p) level).kind = 1) || decide (level = 3)) with
      | true => simp [hfs]
      | false =>
        have := walk_grow (ws := ws) (p := p) (down := 3) k (level + 1) (dAt ws (atN f level p) level).frame (fs ++ [f]) (dAt ws (atN f level p) level)
        rw [List.length_append, hfs] at this
        simp only [cond_false]
        exact this
    cases hh : hasF ws.length f with
    | false => rw [walkL, walkL, hh]; rfl
    | true =>
      have hi := h level (Nat.le_refl _) (hg hh)
      rw [walkL] at h
      rw [walkL, walkL, hh]
      simp only [cond_true]
      rw [show atN f level q = atN f level p by unfold atN; rw [hi]]
      rw [hh] at h
      simp only [cond_true] at h
      cases hc : (!decide ((dAt ws (atN f level p) level).kind = 1) || decide (level = 3)) with
      | true => rfl
      | false =>
        rw [hc] at h
        simp only [cond_false] at h ⊢
        exact ih _ _ _ _ (by simp [hfs]) fun l h1 h2 => h l (by omega) h2
theorem covers_pow {l : Nat} : coversN l = 2 ^ dbits l := by unfold coversN; rw [Nat.one_shiftLeft]
/-- A page's block. -/
theorem way_block {ws : List Nat} {root : Int} {p q : Nat} (h : q / coversN (wayL ws root p 3).lv = p / coversN (wayL ws root p 3).lv) : wayL ws root q 3 = wayL ws root p 3 := by
  refine walk_same 4 0 root [] noDs rfl fun l _ hl => ?_
  have hle : l ≤ (wayL ws root p 3).lv := by unfold WkD.lv wayL; omega
  have h4 := wayL_len ws root p 3
  generalize (wayL ws root p 3).lv = lv at h hle
  unfold indexN
  rw [Nat.shiftRight_eq_div_pow, Nat.shiftRight_eq_div_pow]
  rw [covers_pow] at h
  have hb : dbits l = dbits lv + (dbits l - dbits lv) := by unfold dbits; omega
  rw [hb, Nat.pow_add, ← Nat.div_div_eq_div_mul, ← Nat.div_div_eq_div_mul, h]
attribute [local irreducible] Hy St Ops DH DHF
theorem eqMapsQ_e {w : World} (xs : List MpD) (u v : Value) (hu : SlAt w u 2 (xs.map mpV)) (hv : SlAt w v 2 (xs.map mpV)) : Fn Try.prog 12 [u, v].toArray w [] (fun r _ => r = .bool true) := by
  obtain ⟨q, cap, rfl, hne, hle⟩ := hu.opened
  obtain ⟨q2, cap2, rfl, hne2, _⟩ := hv.opened
  refine enter Try.func12 ?_
  refine run ?_
  refine st_cond _ rfl (fun hc => absurd hc (by simp)) (fun hc => ?_)
  refine run ?_
  refine loopS (σ := Nat) (fun k => [(5, .int .i64 (k : Int))]) (fun _ => []) (fun k => k ≤ xs.length) (fun k => xs.length - k) 0 (Nat.zero_le _) ?_
  rintro k m hm hk
  refine run ?_
  refine st_cond _ rfl (fun hc => ?_) (fun hc => ?_)
  · have hlt : k < xs.length := by simp at hc; omega
    obtain ⟨b, o, rfl⟩ := hne (by intro e; subst e; simp at hlt)
    obtain ⟨b2, o2, rfl⟩ := hne2 (by intro e; subst e; simp at hlt)
    have h1 := (hu.row hlt)
    have h2 := (hv.row hlt)
    simp only [mpV] at h1 h2
    refine run ?_
    refine drawAll ?_
    refine runD ?_
    refine run ?_
    refine st_cond _ rfl (fun hp => ?_) (fun hp => ?_)
    · simp [eqLeaves, eqLeaf] at hp
    · refine run ?_
      exact nextS (k + 1) hlt
  · refine run ?_
    exact fin1 rfl
def AllR2 (r : Option (List MpD)) (u : Value) (hn : Hp) : Prop := match r with
  | none => u = .tuple #[.slice none 0 0, .bool false]
  | some xs => ∃ v h, u = .tuple #[v, .bool true] ∧ Own 76 2 v h (xs.map mpV) ∧ HpLe h hn
end Go.Proofs.Ytiggoglimlnmmaa
