/- Layer 18 (part): what the program asks of a partition: a guest, all. -/
import Derived.Test.YtdfkcjjbflcafaaGreatPartC
namespace Go.Proofs.YtdfkcjjbflcafaaGreat
open Go.RowKit
set_option linter.unusedVariables false
set_option linter.unusedSimpArgs false
set_option maxRecDepth 20000
attribute [local irreducible] Hy St Ops DH DHF
section
variable {w : World} {bp : Nat} {L : PtL} {P : PtD}
theorem guested_e (h : PartQ w bp L P) (i : Nat) (hi : i < P.guests.length) (n : Int) (hn : n = (i : Int) + 1) : Fn Tryz.prog 73 [.pointer (some ⟨bp, 0, none⟩), .int .i64 n].toArray w [] (fun u _ => u = .bool (P.guested i)) := by
  have hp := h.cp
  have ho := h.co
  have hp0 := h.n.p0
  have hp1 := h.n.p1
  have ho1 := h.n.o1
  obtain ⟨q, cap, hmv, hne, hle⟩ := (h.v.mp i hi).opened
  obtain ⟨q2, cap2, hvv, hne2, hle2⟩ := (h.v.vc i hi).opened
  obtain ⟨⟨hf0, hf1⟩, _, _⟩ := h.v.wf.gs i hi
  have hg0 := h.v.gs0 hi
  have hg1 := h.v.gs1 hi
  have hg2 := h.v.gs2 hi
  have hg3 := h.v.gs3 hi
  have hg4 := h.v.gs4 hi
  rw [hmv] at hg4
  rw [hvv] at hg3
  have hrow := h.v.vc i hi
  rw [hvv] at hrow
  refine enter Tryz.func73 ?_
  refine run ?_
  refine callE (fun wc hG => guest_e (h.good hG) i hi n hn) ?_
  refine run ?_
  refine st_cond _ rfl (fun hl => ?_) (fun hl => ?_)
  · simp only [Bool.not_eq_true'] at hl
    refine run ?_
    refine drawN 34 ?_
    refine runDG ?_
    refine callDG (fun h1 wc hG => owns_e (h.good hG) n) ?_
    refine runDG ?_
    refine runG ?_
    refine fin1 ?_
    rw [hn]
    simp only [PtD.guested, hl, cond_false]
    by_cases hf : (P.gs i).first = 0
    · have hw : IntKind.i64.wrap ((((P.gs i).vcpus.length : Nat) : Int) + (((P.gs i).maps.length : Nat) : Int) + 0) = (((P.gs i).vcpus.length : Nat) : Int) + (((P.gs i).maps.length : Nat) : Int) + 0 := wrap_in (by omega) (by omega)
      rw [hf, hw]
      have e : decide ((((P.gs i).vcpus.length : Nat) : Int) + (((P.gs i).maps.length : Nat) : Int) + 0 = 0) = (decide ((P.gs i).vcpus.length = 0) && decide ((P.gs i).maps.length = 0)) := by
        rw [Bool.eq_iff_iff]; simp only [Bool.and_eq_true, decide_eq_true_eq]; omega
      rw [e]
    · simp [hf]
  · simp only [Bool.not_eq_false'] at hl
    refine run ?_
    refine drawAll ?_
    refine runDG ?_
    refine callDG (fun h1 wc hG => between_e _ _ _ wc) ?_
    refine runDG ?_
    refine callDG (fun h1 wc hG => mapped_e (h.good hG) i hi n hn) ?_
    refine runDG ?_
    refine runG ?_
    have hgd : P.guested i = (!(P.gs i).dying && PtD.btw (P.gs i).first 16 ((P.pages.length : Int) - 5) && decide ((P.gs i).vcpus.length ≤ 2) && P.mapped i && allB 5 (fun k => decide ((P.pg ((P.gs i).first.toNat + k)).own = -1) && decide ((P.pg ((P.gs i).first.toNat + k)).wit = -2)) && allB (P.gs i).vcpus.length (P.vcpuAt i)) := by simp only [PtD.guested, hl, cond_true]
    refine st_cond _ rfl (fun hc => ?_) (fun hc => ?_)
    · refine run ?_
      refine fin1 ?_
      rw [hgd]
      have e : decide ((P.gs i).vcpus.length ≤ 2) = !decide ((2 : Int) < ((P.gs i).vcpus.length : Nat)) := by rw [Bool.eq_iff_iff]; simp; omega
      rw [e]
      revert hc
      cases (P.gs i).dying <;> cases PtD.btw (P.gs i).first 16 ((P.pages.length : Int) - 5) <;> cases decide ((2 : Int) < ((P.gs i).vcpus.length : Nat)) <;> cases P.mapped i <;> simp
    simp only [Bool.or_eq_false_iff, Bool.not_eq_false', decide_eq_false_iff_not] at hc
    obtain ⟨⟨⟨hdy, hbt⟩, hv2⟩, hmp⟩ := hc
    have hbt' := hbt
    simp only [PtD.btw, Bool.and_eq_true, decide_eq_true_eq] at hbt'
    rw [hdy, hbt, hmp, show decide ((P.gs i).vcpus.length ≤ 2) = true by simp; omega] at hgd
    simp only [Bool.not_false, Bool.true_and] at hgd
    refine run ?_
    refine callB (fun wc hG => tables_e _ _ (P.gs i).first (by omega) (by omega) wc (hG.cell hg2 (by simp))) (fun v hn hA => ?_)
    obtain ⟨T, tc, cur, rfl, rfl, hcur⟩ := hA.open (by simp)
    simp only [List.cons_append, List.nil_append, List.length_map, List.length_cons, List.length_nil, Nat.zero_add, Nat.reduceAdd]
    refine run ?_
    refine loopS (σ := Nat) (fun k => [(88, .int .i64 (k : Int))]) (fun _ => [⟨T, cur, 3⟩]) (fun k => k ≤ 5 ∧ ∀ j, j < k → (decide ((P.pg ((P.gs i).first.toNat + j)).own = -1) && decide ((P.pg ((P.gs i).first.toNat + j)).wit = -2)) = true) (fun k => 5 - k) 0 ⟨by omega, fun j hj => absurd hj (by omega)⟩ ?_
    rintro k m hm ⟨hk, hall⟩
    refine run ?_
    refine st_cond _ rfl (fun hc => ?_) (fun hc => ?_)
    · have hlt : k < 5 := by simp at hc; omega
      have hx : nth cur.toList k = some (.int .i64 ((P.gs i).first + (k : Int))) := by
        have h1 : ([(P.gs i).first, (P.gs i).first + 1, (P.gs i).first + 2, (P.gs i).first + 3, (P.gs i).first + 4].map inV)[k]? = some (inV ((P.gs i).first + (k : Int))) := by
          have : k = 0 ∨ k = 1 ∨ k = 2 ∨ k = 3 ∨ k = 4 := by omega
          rcases this with rfl | rfl | rfl | rfl | rfl <;> simp
        have := nth_of_row (k := 0) (hcur k _ h1) rfl
        simpa using this
      have hr := h.v.pg ((P.gs i).first.toNat + k) (by omega)
      rw [show (P.gs i).first.toNat + k = ((P.gs i).first + (k : Int)).toNat by omega] at hr
      refine run ?_
      refine drawAll ?_
      refine runD ?_
      refine callD (fun wc hG => ours_e wc) ?_
      refine runD ?_
      refine run ?_
      rw [show ((P.gs i).first + (k : Int)).toNat = (P.gs i).first.toNat + k by omega]
      refine st_cond _ rfl (fun hc => ?_) (fun hc => ?_)
      · refine run ?_
        refine fin1 ?_
        rw [hgd]
        rw [show allB 5 (fun k => decide ((P.pg ((P.gs i).first.toNat + k)).own = -1) && decide ((P.pg ((P.gs i).first.toNat + k)).wit = -2)) = false by
          rw [← Bool.not_eq_true, allB_iff]; intro ha; have := ha k hlt; simp [eqLeaves, eqLeaf] at hc this; simp [this] at hc]
        rfl
      · refine run ?_
        refine nextS (k + 1) ⟨by omega, fun j hj => ?_⟩
        rcases Nat.lt_succ_iff_lt_or_eq.1 hj with hj | rfl
        · exact hall j hj
        · simpa [eqLeaves, eqLeaf] using hc
    · have hge : k = 5 := by simp at hc; omega
      subst hge
      rw [show allB 5 (fun k => decide ((P.pg ((P.gs i).first.toNat + k)).own = -1) && decide ((P.pg ((P.gs i).first.toNat + k)).wit = -2)) = true from allB_iff.2 hall, Bool.true_and] at hgd
      refine run ?_
      refine loopS (σ := Nat) (fun k => [(108, .int .i64 (k : Int))]) (fun _ => []) (fun k => k ≤ (P.gs i).vcpus.length ∧ ∀ j, j < k → P.vcpuAt i j = true) (fun k => (P.gs i).vcpus.length - k) 0 ⟨by omega, fun j hj => absurd hj (by omega)⟩ ?_
      rintro k m hm ⟨hk, hall2⟩
      refine run ?_
      refine st_cond _ rfl (fun hc => ?_) (fun hc => ?_)
      · have hlt : k < (P.gs i).vcpus.length := by simp at hc; omega
        obtain ⟨b2, o2, rfl⟩ := hne2 (by intro e; rw [e] at hlt; simp at hlt)
        have hx := rangeAt_cell0 (hrow.row hlt)
        rw [Nat.mul_one] at hx
        have hva : P.vcpuAt i k = (decide ((P.gs i).vcpus.getD k 0 = -1) || (PtD.btw ((P.gs i).vcpus.getD k 0) 0 ((P.on.length : Int) - 1) && (decide ((P.st ((P.gs i).vcpus.getD k 0).toNat).vm = (i : Int) + 1) && decide ((P.st ((P.gs i).vcpus.getD k 0).toNat).cpu = (k : Int))))) := rfl
        rw [show (default : Int) = 0 from rfl] at hx
        generalize (P.gs i).vcpus.getD k 0 = x at hx hva
        have hno : P.vcpuAt i k = false → P.guested i = false := fun h => by
          rw [hgd, ← Bool.not_eq_true, allB_iff]; intro ha; rw [ha k hlt] at h; cases h
        have hyes : P.vcpuAt i k = true → ∀ j, j < k + 1 → P.vcpuAt i j = true := fun h j hj => by
          rcases Nat.lt_succ_iff_lt_or_eq.1 hj with hj | rfl
          · exact hall2 j hj
          · exact h
        refine run ?_
        cases hd : decide (x = -1)
        · refine runG ?_
          refine callEG (fun h1 wc hG => between_e _ _ _ wc) ?_
          cases hb : PtD.btw x 0 ((P.on.length : Int) - 1)
          · refine runG ?_
            refine st_cond _ rfl (fun hc => ?_) (fun hc => absurd hc (by simp))
            refine run ?_
            refine fin1 ?_
            rw [hno (by rw [hva, hd, hb]; rfl)]
          · have hb' := hb
            simp only [PtD.btw, Bool.and_eq_true, decide_eq_true_eq] at hb'
            have hr := h.v.st x.toNat (by omega)
            refine runG ?_
            refine st_cond _ rfl (fun hc => ?_) (fun hc => ?_)
            · refine run ?_
              refine fin1 ?_
              rw [hno (by rw [hva, hd, hb]; rw [hn] at hc; simp [eqLeaves, eqLeaf] at hc; simp; intro h1 h2; rcases hc with hc | hc <;> contradiction)]
            · refine run ?_
              refine nextS (k + 1) ⟨by omega, hyes (by rw [hva, hd, hb]; rw [hn] at hc; simpa [eqLeaves, eqLeaf] using hc)⟩
        · refine runG ?_
          refine st_cond _ rfl (fun hc => absurd hc (by simp)) (fun hc => ?_)
          refine run ?_
          refine nextS (k + 1) ⟨by omega, hyes (by rw [hva, hd]; rfl)⟩
      · have hge : k = (P.gs i).vcpus.length := by simp at hc; omega
        subst hge
        rw [allB_iff.2 hall2] at hgd
        refine run ?_
        refine fin1 ?_
        rw [hgd]
end
end Go.Proofs.YtdfkcjjbflcafaaGreat
