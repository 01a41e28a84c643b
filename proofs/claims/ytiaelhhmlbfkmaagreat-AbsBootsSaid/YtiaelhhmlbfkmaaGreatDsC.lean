/- Layer 3 (desc): a descriptor's fields and word, the plain part. -/
import Derived.Test.YtiaelhhmlbfkmaaGreatDsB
namespace Go.Proofs.YtiaelhhmlbfkmaaGreat
open Go.RowKit
set_option linter.unusedVariables false
set_option linter.unusedSimpArgs false
set_option maxRecDepth 20000
def b1 (b : Bool) : Nat := bif b then 1 else 0
theorem b1_lt (b : Bool) : b1 b < 2 ^ 1 := by cases b <;> decide
theorem b1_val (b : Bool) : ((b1 b : Nat) : Int) = bif b then 1 else 0 := by cases b <;> rfl
def DsD.fields (stage : Int) (level : Nat) (d : DsD) : List FdD :=
  bif decide (d.kind = 0) then [⟨4, 4, d.note.toNat⟩]
  else bif decide (d.kind = 1) then [⟨0, 1, 1⟩, ⟨1, 1, 1⟩, ⟨12, 12, d.frame.toNat⟩]
  else bif decide (stage = 1) then [⟨0, 1, 1⟩, ⟨1, 1, b1 (decide (level = 3))⟩, ⟨12, 12, d.frame.toNat⟩, ⟨10, 1, b1 d.af⟩, ⟨54, 1, b1 (!d.x)⟩, ⟨7, 1, b1 (!d.w)⟩, ⟨11, 1, b1 d.ng⟩]
  else [⟨0, 1, 1⟩, ⟨1, 1, b1 (decide (level = 3))⟩, ⟨12, 12, d.frame.toNat⟩, ⟨10, 1, b1 d.af⟩, ⟨54, 1, b1 (!d.x)⟩, ⟨6, 1, b1 d.r⟩, ⟨7, 1, b1 d.w⟩, ⟨55, 4, d.soft.toNat⟩]
def DsD.word (stage : Int) (level : Nat) (d : DsD) : Nat := joinV (joinL (d.fields stage level) 0 0)
/-- No two of them have a bit in common. -/
def apart : List Nat → Nat → Bool
  | [], _ => true
  | m :: r, t => decide (t &&& m = 0) && apart r (t ||| m)
theorem joinL_some : ∀ (l : List FdD) (w t : Nat), apart (l.map FdD.mask) t = true → joinE (joinL l w t) = 0 ∧ joinV (joinL l w t) = l.foldl (fun a f => a ||| f.bits) w := by
  intro l
  induction l with
  | nil => intro w t _; exact ⟨rfl, rfl⟩
  | cons f r ih =>
    intro w t h
    simp only [List.map_cons, apart, Bool.and_eq_true] at h
    rw [joinL, h.1, cond_true, List.foldl_cons]
    exact ih _ _ h.2
theorem DsD.joinE_fields (stage : Int) (level : Nat) (d : DsD) : joinE (joinL (d.fields stage level) 0 0) = 0 := by
  refine (joinL_some _ _ _ ?_).1
  unfold DsD.fields
  cases decide (d.kind = 0) <;> cases decide (d.kind = 1) <;> cases decide (stage = 1) <;> simp only [cond_true, cond_false, List.map_cons, List.map_nil, FdD.mask] <;> decide +kernel
theorem joinL_lt : ∀ (l : List FdD) (w t : Nat), w < 18446744073709551616 → joinV (joinL l w t) < 18446744073709551616 := by
  intro l
  induction l with
  | nil => intro w t h; exact h
  | cons f r ih =>
    intro w t h
    rw [joinL]
    cases decide (t &&& f.mask = 0)
    · exact (show (0 : Nat) < 18446744073709551616 by decide)
    · exact ih _ _ (or_lt64 h f.bits_lt)
theorem DsD.word_lt (stage : Int) (level : Nat) (d : DsD) : d.word stage level < 18446744073709551616 := joinL_lt _ _ _ (by decide)
theorem DsD.word_none (stage : Int) (level : Nat) (d : DsD) (h : d.kind = 0) : d.word stage level = (d.note.toNat <<< 4) % 18446744073709551616 := by
  simp [DsD.word, DsD.fields, h, joinL, joinV, FdD.bits]
theorem btw_toNat {z : Int} {b : Nat} (h : PtD.btw z 0 b = true) : ((z.toNat : Nat) : Int) = z ∧ z.toNat ≤ b := by
  simp only [PtD.btw, Bool.and_eq_true, decide_eq_true_eq] at h
  omega
theorem DsD.fields_ok {stage : Int} {level : Nat} {d : DsD} (h : d.may stage level = true) : ∀ f ∈ d.fields stage level, f.Ok := by
  have key : ∀ l : List FdD, l.all (fun f => decide (1 ≤ f.n) && decide (f.a + f.n ≤ 64) && decide (f.v < 2 ^ f.n)) = true → ∀ f ∈ l, f.Ok := by
    intro l hl f hf
    have := List.all_eq_true.1 hl f hf
    simp only [Bool.and_eq_true, decide_eq_true_eq] at this
    exact ⟨this.1.1, this.1.2, this.2⟩
  apply key
  unfold DsD.may at h
  unfold DsD.fields
  by_cases h0 : d.kind = 0
  · simp only [h0, decide_true, cond_true, Bool.and_eq_true, Bool.or_eq_true, decide_eq_true_eq] at h ⊢
    have : d.note.toNat < 2 ^ 4 := by
      rcases h.2 with e | ⟨_, e⟩
      · rw [e]; decide
      · have := (btw_toNat (b := 15) e).2; omega
    simp [this]
  · by_cases h1 : d.kind = 1
    · simp only [h1, decide_true, cond_true, Bool.and_eq_true, decide_eq_true_eq, show decide ((1 : Int) = 0) = false from rfl, cond_false] at h ⊢
      have : d.frame.toNat < 2 ^ 12 := by have := (btw_toNat (b := 4095) h.2).2; omega
      simp [this]
    · by_cases h2 : d.kind = 2
      · simp only [h2, decide_true, cond_true, Bool.and_eq_true, decide_eq_true_eq, show decide ((2 : Int) = 0) = false from rfl, show decide ((2 : Int) = 1) = false from rfl, cond_false] at h ⊢
        have : d.frame.toNat < 2 ^ 12 := by have := (btw_toNat (b := 4095) h.1.2).2; omega
        have b := b1_lt
        by_cases hs : stage = 1
        · simp only [hs, decide_true, cond_true]
          simp [this, b, b1]
          cases decide (level = 3) <;> cases d.af <;> cases d.x <;> cases d.w <;> cases d.ng <;> decide
        · simp only [hs, decide_false, cond_false, Bool.and_eq_true] at h ⊢
          have h4 : d.soft.toNat < 2 ^ 4 := by have := (btw_toNat (b := 15) h.1.1.1.2.2).2; omega
          simp [this, h4, b1]
          cases decide (level = 3) <;> cases d.af <;> cases d.x <;> cases d.w <;> cases d.r <;> decide
      · simp [h0, h1, h2] at h
/-- What a word could be, at a place. -/
def guessL (stage : Int) (level : Nat) (w : Nat) : DsD :=
  bif !decide (getN w 0 1 = 1) then { noDs with note := (getN w 4 4 : Int) }
  else bif decide (getN w 1 1 = 1) && !decide (level = 3) then { noDs with kind := 1, frame := (getN w 12 12 : Int) }
  else bif decide (stage = 1) then { noDs with kind := 2, frame := (getN w 12 12 : Int), af := decide (getN w 10 1 = 1), x := !decide (getN w 54 1 = 1), r := true, w := !decide (getN w 7 1 = 1), ng := decide (getN w 11 1 = 1) }
  else { noDs with kind := 2, frame := (getN w 12 12 : Int), af := decide (getN w 10 1 = 1), x := !decide (getN w 54 1 = 1), r := decide (getN w 6 1 = 1), w := decide (getN w 7 1 = 1), soft := (getN w 55 4 : Int) }
/-- The descriptor whose word that is. -/
def ofL (stage : Int) (level : Nat) (w : Nat) : DsD := bif (guessL stage level w).may stage level && decide ((guessL stage level w).word stage level = w) then guessL stage level w else noDs
theorem noDs_may (stage : Int) (level : Nat) : noDs.may stage level = true := by simp [DsD.may, noDs, DsD.bare]
theorem ofL_may (stage : Int) (level : Nat) (w : Nat) : (ofL stage level w).may stage level = true := by
  unfold ofL
  cases h : (guessL stage level w).may stage level
  · rw [Bool.false_and, cond_false]; exact noDs_may _ _
  · rw [Bool.true_and]
    cases decide ((guessL stage level w).word stage level = w)
    · exact noDs_may _ _
    · exact h
end Go.Proofs.YtiaelhhmlbfkmaaGreat
