/- Layer 3 (desc): which descriptors may be. -/
import Derived.Test.YtiaelhhmlbfkmaaGreatDsA
namespace Go.Proofs.YtiaelhhmlbfkmaaGreat
open Go.RowKit
set_option linter.unusedVariables false
set_option linter.unusedSimpArgs false
set_option maxRecDepth 20000
namespace DsD
def bare (d : DsD) : Bool := !d.r && !d.w && !d.x && !d.af && !d.ng && decide (d.soft = 0)
/-- May it be, at a place? -/
def may (stage : Int) (level : Nat) (d : DsD) : Bool :=
  bif decide (d.kind = 0) then decide (d.frame = 0) && d.bare && (decide (d.note = 0) || (decide (stage = 2) && PtD.btw d.note 0 15))
  else bif decide (d.kind = 1) then d.bare && decide (d.note = 0) && decide (level < 3) && PtD.btw d.frame 0 4095
  else bif decide (d.kind = 2) then decide (d.note = 0) && (bif decide (stage = 1) then d.r && decide (d.soft = 0) else !d.ng && PtD.btw d.soft 0 15) && decide (0 < level) && PtD.btw d.frame 0 4095 && decide (d.frame.toNat % coversN level = 0)
  else false
end DsD
attribute [local irreducible] Hy St Ops DH DHF
theorem dFramed_e (stage : Int) (level : Nat) (d : DsD) (o : Nat) (ho : 0 < o) (ho2 : o < 1000) (w : World) : Fn Tryz.prog 316 [.agg #[.int .i64 stage, .int .i64 (level : Int), .int .i64 d.kind, .int .i64 d.frame, .bool d.r, .bool d.w, .bool d.x, .bool d.af, .bool d.ng, .int .i64 d.soft, .int .i64 d.note], .int .i64 (o : Int)].toArray w [] (fun u _ => u = .bool (PtD.btw d.frame 0 4095 && decide (d.frame.toNat % o = 0))) := by
  refine enter Tryz.func316 ?_
  refine run ?_
  intro B
  refine runG ?_
  refine opG (hy := fun hg => x_remN (by (simp only [hg, gv_true]; rfl)) (by (simp only [hg, gv_true]; rfl)) d.frame.toNat o (by simp [wnt] at hg; omega) (by rfl) ho) (h := ?_)
  refine runG ?_
  refine fin1 ?_
  rw [PtD.btw]
  congr 2
  rw [Bool.eq_iff_iff, decide_eq_true_eq, decide_eq_true_eq]
  omega
/-- One is compared with another one, field by field. -/
theorem eqDs (a b : DsD) : eqLeaves [.int .i64 a.kind, .int .i64 a.frame, .bool a.r, .bool a.w, .bool a.x, .bool a.af, .bool a.ng, .int .i64 a.soft, .int .i64 a.note] [.int .i64 b.kind, .int .i64 b.frame, .bool b.r, .bool b.w, .bool b.x, .bool b.af, .bool b.ng, .int .i64 b.soft, .int .i64 b.note] = (decide (a.kind = b.kind) && decide (a.frame = b.frame) && (a.r == b.r) && (a.w == b.w) && (a.x == b.x) && (a.af == b.af) && (a.ng == b.ng) && decide (a.soft = b.soft) && decide (a.note = b.note)) := by
  simp only [eqLeaves, eqLeaf, Bool.and_true, Bool.and_assoc]
theorem bareEq (d : DsD) (k f n : Int) (hk : d.kind = k) : eqLeaves [.int .i64 d.kind, .int .i64 d.frame, .bool d.r, .bool d.w, .bool d.x, .bool d.af, .bool d.ng, .int .i64 d.soft, .int .i64 d.note] [.int .i64 k, .int .i64 f, .bool false, .bool false, .bool false, .bool false, .bool false, .int .i64 0, .int .i64 n] = (decide (d.frame = f) && d.bare && decide (d.note = n)) := by
  rw [eqDs d ⟨k, f, false, false, false, false, false, 0, n⟩, decide_eq_true hk]
  unfold DsD.bare
  cases d.r <;> cases d.w <;> cases d.x <;> cases d.af <;> cases d.ng <;> simp
theorem dMay_e (stage : Int) (hs : stage = 1 ∨ stage = 2) (level : Nat) (hl : level < 4) (d : DsD) (w : World) : Fn Tryz.prog 249 [.agg #[.int .i64 stage, .int .i64 (level : Int), .int .i64 d.kind, .int .i64 d.frame, .bool d.r, .bool d.w, .bool d.x, .bool d.af, .bool d.ng, .int .i64 d.soft, .int .i64 d.note]].toArray w [] (fun u _ => u = .bool (d.may stage level)) := by
  have hlv : decide ((level : Int) < 3) = decide (level < 3) := by rw [Bool.eq_iff_iff, decide_eq_true_eq, decide_eq_true_eq]; omega
  have hlp : decide ((0 : Int) < (level : Int)) = decide (0 < level) := by rw [Bool.eq_iff_iff, decide_eq_true_eq, decide_eq_true_eq]; omega
  have h9 := dbits_lt hl
  refine enter Tryz.func249 ?_
  refine run ?_
  intro B
  refine run ?_
  intro C
  refine run ?_
  refine st_cond _ rfl (fun hk => ?_) (fun hk => ?_)
  · have hk0 : d.kind = 0 := by simpa using hk
    refine runG ?_
    refine st_cond _ rfl (fun hn => ?_) (fun hn => ?_)
    · refine runG ?_
      refine fin1 ?_
      rw [bareEq d d.kind 0 d.note rfl]
      simp only [Bool.and_eq_true, decide_eq_true_eq] at hn
      simp [DsD.may, hk0, hn.1.1, PtD.btw, hn.1.2, hn.2]
    · refine runG ?_
      refine fin1 ?_
      rw [bareEq d d.kind 0 0 rfl]
      simp only [DsD.may, hk0, decide_true, cond_true, PtD.btw]
      cases hz : decide (d.note = 0)
      · have : (decide (stage = 2) && (decide (0 ≤ d.note) && decide (d.note ≤ 15))) = false := by
          rw [← Bool.and_assoc]; simpa using hn
        rw [this]; simp
      · simp
  · have hk0 : decide (d.kind = 0) = false := by simpa using hk
    refine run ?_
    refine st_cond _ rfl (fun hk1 => ?_) (fun hk1 => ?_)
    · have hk1' : d.kind = 1 := by simpa using hk1
      refine runG ?_
      refine callEG (fun hg1 wc hG => dFramed_e stage level d 1 (by decide) (by decide) wc) ?_
      refine runG ?_
      refine fin1 ?_
      rw [bareEq d d.kind d.frame 0 rfl, hlv]
      simp only [DsD.may, hk1', decide_true, cond_true, show decide ((1 : Int) = 0) = false from rfl, cond_false, Nat.mod_one, Bool.and_true, Bool.true_and]
    · have hk1' : decide (d.kind = 1) = false := by simpa using hk1
      refine run ?_
      refine st_cond _ rfl (fun hk2 => ?_) (fun hk2 => ?_)
      · have hk2' : d.kind = 2 := by simpa using hk2
        refine run ?_
        refine drawW 7 [⟨B, #[.int .i64 stage, .int .i64 (level : Int), .int .i64 d.kind, .int .i64 d.frame, .bool d.r, .bool d.w, .bool d.x, .bool d.af, .bool d.ng, .int .i64 d.soft, .int .i64 d.note], 257⟩] ?_
        refine runW ?_
        refine run ?_
        refine st_cond _ rfl (fun h1 => ?_) (fun h1 => ?_)
        · refine runG ?_
          refine drawN 32 ?_
          refine runDG ?_
          refine callDG (fun hg wc hG => dBits_e stage level hl wc) ?_
          refine opDG (hy := fun hg => x_shlI rfl (by (simp only [hg, gv_true]; rfl)) 1 (dbits level) (by rfl) (by rfl) (by omega) (Nat.lt_of_le_of_lt h9.2.1 (by decide))) (h := ?_)
          refine callDG (fun hg wc hG => dFramed_e stage level d (coversN level) (by omega) (by omega) wc) ?_
          refine runDG ?_
          refine run ?_
          refine run ?_
          refine fin1 ?_
          rw [hlp, eqDs d ⟨d.kind, d.frame, true, d.w, d.x, d.af, d.ng, 0, 0⟩]
          have h1' : stage = 1 := by simpa using h1
          simp only [DsD.may, hk2', h1', decide_true, cond_true, PtD.btw, show decide ((2 : Int) = 0) = false from rfl, show decide ((2 : Int) = 1) = false from rfl, cond_false, beq_self_eq_true, Bool.and_true, Bool.true_and]
          cases d.r <;> by_cases hz : d.soft = 0 <;> simp [hz, Bool.and_assoc]
        · refine runG ?_
          refine drawN 32 ?_
          refine runDG ?_
          refine callDG (fun hg wc hG => dBits_e stage level hl wc) ?_
          refine opDG (hy := fun hg => x_shlI rfl (by (simp only [hg, gv_true]; rfl)) 1 (dbits level) (by rfl) (by rfl) (by omega) (Nat.lt_of_le_of_lt h9.2.1 (by decide))) (h := ?_)
          refine callDG (fun hg wc hG => dFramed_e stage level d (coversN level) (by omega) (by omega) wc) ?_
          refine runDG ?_
          refine run ?_
          refine run ?_
          refine fin1 ?_
          rw [hlp, eqDs d ⟨d.kind, d.frame, d.r, d.w, d.x, d.af, false, d.soft, 0⟩]
          have h1' : decide (stage = 1) = false := by simpa using h1
          simp only [DsD.may, hk2', h1', decide_true, cond_true, PtD.btw, show decide ((2 : Int) = 0) = false from rfl, show decide ((2 : Int) = 1) = false from rfl, cond_false, beq_self_eq_true, Bool.and_true, Bool.true_and]
          cases d.ng <;> cases decide (d.note = 0) <;> cases decide (0 < level) <;> simp [Bool.and_assoc]
      · refine run ?_
        refine fin1 ?_
        have hk2' : decide (d.kind = 2) = false := by simpa using hk2
        simp [DsD.may, hk0, hk1', hk2']
end Go.Proofs.YtiaelhhmlbfkmaaGreat
