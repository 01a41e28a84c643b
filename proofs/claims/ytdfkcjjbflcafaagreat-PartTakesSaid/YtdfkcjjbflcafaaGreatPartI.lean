/- Layer 18 (part): the reference's test of a guest. -/
import Derived.Test.YtdfkcjjbflcafaaGreatPartH
namespace Go.Proofs.YtdfkcjjbflcafaaGreat
open Go.RowKit
set_option linter.unusedVariables false
set_option linter.unusedSimpArgs false
set_option maxRecDepth 20000
attribute [local irreducible] Hy St Ops DH DHF
section
variable {w : World} {L : PtL} {P : PtD}
set_option maxHeartbeats 4000000 in
theorem guestOne_e (h : PartV w L P) (hn : P.Len) (i : Nat) (hi : i < P.guests.length) (vm : Int) (hvm : vm = (i : Int) + 1) : Fn Tryz.prog 31 [.agg #[L.pv P.pages.length, L.gv P.guests.length, L.ov P.on.length], .int .i64 vm].toArray w [] (fun u _ => u = .bool (P.oneR i)) := by
  obtain ⟨np0, np1, ng4, no0, no1⟩ := hn
  have hr := h.gs i hi
  obtain ⟨q, cap, hmv, hne, hle⟩ := (h.mp i hi).opened
  obtain ⟨q2, cap2, hvv, hne2, hle2⟩ := (h.vc i hi).opened
  obtain ⟨⟨hf0, hf1⟩, _, _⟩ := h.wf.gs i hi
  have hrow := h.vc i hi
  have hrowm := h.mp i hi
  rw [hvv] at hrow
  rw [hmv] at hrowm
  rw [hmv, hvv] at hr
  obtain rfl : vm = ((i + 1 : Nat) : Int) := by omega
  have hr' : w.rangeAt L.gb (L.go + (((i + 1 : Nat) : Int) - 1).toNat * 5) [.bool (P.gs i).live, .bool (P.gs i).dying, .int .i64 (P.gs i).first, .slice q2 (P.gs i).vcpus.length cap2, .slice q (P.gs i).maps.length cap] := by
    rw [show (((i + 1 : Nat) : Int) - 1).toNat = i by omega]; exact hr
  refine enter Tryz.func31 ?_
  refine run ?_
  intro B G
  refine run ?_
  refine loopS (σ := Nat × Nat) (fun s => [(6, .int .i64 (s.2 : Int)), (7, .int .i64 (s.1 : Int))]) (fun s => [⟨G, #[.bool (P.gs i).live, .bool (P.gs i).dying, .int .i64 (P.gs i).first, .slice q2 (P.gs i).vcpus.length cap2, .slice q (P.gs i).maps.length cap], 63⟩, ⟨B, #[L.pv P.pages.length, L.gv P.guests.length, L.ov P.on.length], 26⟩]) (fun s => s.1 ≤ P.pages.length ∧ s.2 ≤ s.1 ∧ decide (0 < s.2) = (P.pages.take s.1).any fun x => decide (x.own = ((i + 1 : Nat) : Int))) (fun s => P.pages.length - s.1) (0, 0) ⟨by omega, by omega, by simp⟩ ?_
  rintro ⟨k, ow⟩ m hm ⟨hk, hok, how⟩
  dsimp only at hm hk hok how ⊢
  refine run ?_
  refine st_cond _ rfl (fun hc => ?_) (fun hc => ?_)
  · have hlt : k < P.pages.length := by simp at hc; omega
    have h0 := h.pg0 hlt
    have htk : P.pages.take (k + 1) = P.pages.take k ++ [P.pg k] := by
      rw [List.take_succ_eq_append_getElem hlt, PtD.pg, List.getD_eq_getElem?_getD, List.getElem?_eq_getElem hlt]; rfl
    refine run ?_
    refine st_cond _ rfl (fun hp => ?_) (fun hp => ?_)
    · refine run ?_
      exact nextS (k + 1, ow + 1) ⟨by dsimp only; omega, by dsimp only; omega, by dsimp only; rw [htk, List.any_append, ← how]; simp at hp; simp [hp]⟩
    · refine run ?_
      exact nextS (k + 1, ow) ⟨by dsimp only; omega, by dsimp only; omega, by dsimp only; rw [htk, List.any_append, ← how]; simp at hp; simp [hp]⟩
  have hge : k = P.pages.length := by simp at hc; omega
  subst hge
  rw [List.take_length] at how
  have how' : decide (0 < ow) = P.owns ((i : Int) + 1) := how
  refine run ?_
  refine st_cond _ rfl (fun hl => ?_) (fun hl => ?_)
  · simp only [Bool.not_eq_true'] at hl
    refine runG ?_
    refine fin1 ?_
    simp only [PtD.oneR, hl, cond_false, ← how']
    simp
  simp only [Bool.not_eq_false'] at hl
  have hone : P.oneR i = (!((P.gs i).dying || decide ((P.gs i).first < 16) || decide ((P.gs i).first > (P.pages.length : Int) - 5) || decide ((P.gs i).vcpus.length > 2)) &&
    allB 5 (fun k => decide (P.tablesR ((P.gs i).first + k) = (i : Int) + 1)) && allB (P.guests.length - (i + 1)) (fun k => P.apartR i (i + 1 + k)) &&
    allB (P.gs i).vcpus.length (P.vcpuR i) && allB (P.gs i).maps.length (PtD.mapR (P.gs i).maps P.pages.length) && allB P.pages.length (P.useR i)) := by simp only [PtD.oneR, hl, cond_true]
  have hv2 : decide ((P.gs i).vcpus.length > 2) = decide ((2 : Int) < ((P.gs i).vcpus.length : Nat)) := by rw [decide_eq_decide]; omega
  rw [hv2] at hone
  refine runG ?_
  refine st_cond _ rfl (fun hc => ?_) (fun hc => ?_)
  · refine run ?_
    refine fin1 ?_
    rw [hone, show ((P.gs i).dying || decide ((P.gs i).first < 16) || decide ((P.gs i).first > (P.pages.length : Int) - 5) || decide ((2 : Int) < ((P.gs i).vcpus.length : Nat))) = true from hc]
    rfl
  rw [show ((P.gs i).dying || decide ((P.gs i).first < 16) || decide ((P.gs i).first > (P.pages.length : Int) - 5) || decide ((2 : Int) < ((P.gs i).vcpus.length : Nat))) = false from hc] at hone
  simp only [Bool.not_false, Bool.true_and] at hone
  simp only [Bool.or_eq_false_iff, decide_eq_false_iff_not] at hc
  obtain ⟨⟨⟨hdy, hb1⟩, hb2⟩, hb3⟩ := hc
  have hno : ∀ (n : Nat) (p : Nat → Bool) (k : Nat), k < n → p k = false → allB n p = false := fun n p k hk h => by
    rw [← Bool.not_eq_true, allB_iff]; intro ha; rw [ha k hk] at h; cases h
  have hyes : ∀ (p : Nat → Bool) (k : Nat), (∀ j, j < k → p j = true) → p k = true → ∀ j, j < k + 1 → p j = true := fun p k h h2 j hj => by
    rcases Nat.lt_succ_iff_lt_or_eq.1 hj with hj | rfl
    · exact h j hj
    · exact h2
  refine run ?_
  refine loopS (σ := Nat) (fun k => [(8, .int .i64 ((P.gs i).first + (k : Int)))]) (fun s => [⟨G, #[.bool (P.gs i).live, .bool (P.gs i).dying, .int .i64 (P.gs i).first, .slice q2 (P.gs i).vcpus.length cap2, .slice q (P.gs i).maps.length cap], 63⟩, ⟨B, #[L.pv P.pages.length, L.gv P.guests.length, L.ov P.on.length], 26⟩]) (fun k => k ≤ 5 ∧ ∀ j, j < k → decide (P.tablesR ((P.gs i).first + (j : Int)) = (i : Int) + 1) = true) (fun k => 5 - k) 0 ⟨by omega, fun j hj => absurd hj (by omega)⟩ ?_ (hl := by simp only [Int.natCast_zero, Int.add_zero]; (repeat (first | exact True.intro | (refine And.intro (by first | exact Or.inl rfl | exact Or.inr rfl) ?_))))
  rintro k m hm ⟨hk, hall⟩
  refine run ?_
  refine st_cond _ rfl (fun hc => ?_) (fun hc => ?_)
  · have hlt : k < 5 := by simp at hc; omega
    refine run ?_
    refine callE (fun wc hG => tablesR_e (h.good hG) _ _ (by omega) ((P.gs i).first + (k : Int)) ⟨by omega, by omega⟩) ?_
    refine run ?_
    refine st_cond _ rfl (fun hp => ?_) (fun hp => ?_)
    · refine run ?_
      refine fin1 ?_
      rw [hone, hno 5 _ k hlt (by simpa using hp)]
      rfl
    · refine run ?_
      simp only [show (P.gs i).first + (k : Int) + 1 = (P.gs i).first + ((k + 1 : Nat) : Int) by omega]
      exact nextS (k + 1) ⟨by omega, hyes (fun j => decide (P.tablesR ((P.gs i).first + (j : Int)) = (i : Int) + 1)) k hall (by simpa using hp)⟩
  have hge : k = 5 := by simp at hc; omega
  subst hge
  rw [show allB 5 (fun k => decide (P.tablesR ((P.gs i).first + (k : Int)) = (i : Int) + 1)) = true from allB_iff.2 hall, Bool.true_and] at hone
  clear hall hm hk hc
  refine run ?_
  refine loopS (σ := Nat) (fun k => [(9, .int .i64 ((i + 1 + k : Nat) : Int))]) (fun s => [⟨G, #[.bool (P.gs i).live, .bool (P.gs i).dying, .int .i64 (P.gs i).first, .slice q2 (P.gs i).vcpus.length cap2, .slice q (P.gs i).maps.length cap], 63⟩, ⟨B, #[L.pv P.pages.length, L.gv P.guests.length, L.ov P.on.length], 26⟩]) (fun k => k ≤ P.guests.length - (i + 1) ∧ ∀ j, j < k → P.apartR i (i + 1 + j) = true) (fun k => P.guests.length - (i + 1) - k) 0 ⟨by omega, fun j hj => absurd hj (by omega)⟩ ?_
  rintro k m hm ⟨hk, hall⟩
  refine run ?_
  refine st_cond _ rfl (fun hc => ?_) (fun hc => ?_)
  · have hlt : i + 1 + k < P.guests.length := by simp at hc; omega
    have hrj := h.gs (i + 1 + k) hlt
    obtain ⟨qj, capj, hmvj, _⟩ := (h.mp (i + 1 + k) hlt).opened
    obtain ⟨qj2, capj2, hvvj, _⟩ := (h.vc (i + 1 + k) hlt).opened
    rw [hmvj, hvvj] at hrj
    refine run ?_
    intro O
    refine runG ?_
    refine st_cond _ rfl (fun hp => ?_) (fun hp => ?_)
    · refine run ?_
      refine fin1 ?_
      rw [hone, hno _ _ k (by omega) (by rw [PtD.apartR, hp]; rfl)]
      rfl
    · refine run ?_
      exact nextS (k + 1) ⟨by omega, hyes (fun j => P.apartR i (i + 1 + j)) k hall (by show P.apartR i (i + 1 + k) = true; rw [PtD.apartR, hp]; rfl)⟩
  have hge : k = P.guests.length - (i + 1) := by simp at hc; omega
  subst hge
  rw [show allB (P.guests.length - (i + 1)) (fun k => P.apartR i (i + 1 + k)) = true from allB_iff.2 hall, Bool.true_and] at hone
  clear hall hm hk hc
  refine run ?_
  refine loopS (σ := Nat) (fun k => [(11, .int .i64 (k : Int))]) (fun s => [⟨G, #[.bool (P.gs i).live, .bool (P.gs i).dying, .int .i64 (P.gs i).first, .slice q2 (P.gs i).vcpus.length cap2, .slice q (P.gs i).maps.length cap], 63⟩, ⟨B, #[L.pv P.pages.length, L.gv P.guests.length, L.ov P.on.length], 26⟩]) (fun k => k ≤ (P.gs i).vcpus.length ∧ ∀ j, j < k → P.vcpuR i j = true) (fun k => (P.gs i).vcpus.length - k) 0 ⟨by omega, fun j hj => absurd hj (by omega)⟩ ?_
  rintro k m hm ⟨hk, hall⟩
  refine run ?_
  refine st_cond _ rfl (fun hc => ?_) (fun hc => ?_)
  · have hlt : k < (P.gs i).vcpus.length := by simp at hc; omega
    obtain ⟨b2, o2, rfl⟩ := hne2 (by intro e; rw [e] at hlt; simp at hlt)
    have hx := rangeAt_cell0 (hrow.row hlt)
    rw [Nat.mul_one, show (default : Int) = 0 from rfl] at hx
    have hva : P.vcpuR i k = !(decide ((P.gs i).vcpus.getD k 0 < -1) || decide ((P.gs i).vcpus.getD k 0 ≥ P.on.length) || (decide ((P.gs i).vcpus.getD k 0 ≥ 0) && !(decide ((P.st ((P.gs i).vcpus.getD k 0).toNat).vm = (i : Int) + 1) && decide ((P.st ((P.gs i).vcpus.getD k 0).toNat).cpu = (k : Int))))) := rfl
    generalize (P.gs i).vcpus.getD k 0 = x at hx hva
    by_cases hin : 0 ≤ x ∧ x < P.on.length
    · have hst := h.st x.toNat (by omega)
      refine runG ?_
      refine st_cond _ rfl (fun hp => ?_) (fun hp => ?_)
      · refine run ?_
        refine fin1 ?_
        rw [hone, hno _ _ k hlt (by rw [hva, Bool.not_eq_false']; simpa [eqLeaves, eqLeaf] using hp)]
        rfl
      · refine run ?_
        exact nextS (k + 1) ⟨by omega, hyes (P.vcpuR i) k hall (by rw [hva, Bool.not_eq_true']; simpa [eqLeaves, eqLeaf] using hp)⟩
    · rcases (by omega : x < -1 ∨ x = -1 ∨ (P.on.length : Int) ≤ x) with h1 | h1 | h1
      · have e1 : decide (x < -1) = true := by simpa using h1
        refine runG ?_
        simp only [e1]
        refine runG ?_
        refine st_cond _ rfl (fun hp => ?_) (fun hp => absurd hp (by simp))
        refine run ?_
        refine fin1 ?_
        rw [hone, hno _ _ k hlt (by rw [hva, e1]; rfl)]
        rfl
      · have e1 : decide (x < -1) = false := by simp; omega
        have e2 : decide ((P.on.length : Int) ≤ x) = false := by simp; omega
        have e3 : decide (0 ≤ x) = false := by simp; omega
        refine runG ?_
        simp only [e1, e2, e3]
        refine runG ?_
        refine st_cond _ rfl (fun hp => absurd hp (by simp)) (fun hp => ?_)
        refine run ?_
        exact nextS (k + 1) ⟨by omega, hyes (P.vcpuR i) k hall (by rw [hva, e1, show decide (x ≥ (P.on.length : Int)) = false from e2, show decide (x ≥ 0) = false from e3]; rfl)⟩
      · have e1 : decide (x < -1) = false := by simp; omega
        have e2 : decide ((P.on.length : Int) ≤ x) = true := by simpa using h1
        refine runG ?_
        simp only [e1, e2]
        refine runG ?_
        refine st_cond _ rfl (fun hp => ?_) (fun hp => absurd hp (by simp))
        refine run ?_
        refine fin1 ?_
        rw [hone, hno _ _ k hlt (by rw [hva, e1, show decide (x ≥ (P.on.length : Int)) = true from e2]; rfl)]
        rfl
  have hge : k = (P.gs i).vcpus.length := by simp at hc; omega
  subst hge
  rw [show allB (P.gs i).vcpus.length (P.vcpuR i) = true from allB_iff.2 hall, Bool.true_and] at hone
  clear hall hm hk hc
  refine run ?_
  refine loopS (σ := Nat) (fun k => [(13, .int .i64 (k : Int))]) (fun s => [⟨G, #[.bool (P.gs i).live, .bool (P.gs i).dying, .int .i64 (P.gs i).first, .slice q2 (P.gs i).vcpus.length cap2, .slice q (P.gs i).maps.length cap], 63⟩, ⟨B, #[L.pv P.pages.length, L.gv P.guests.length, L.ov P.on.length], 26⟩]) (fun k => k ≤ (P.gs i).maps.length ∧ ∀ j, j < k → PtD.mapR (P.gs i).maps P.pages.length j = true) (fun k => (P.gs i).maps.length - k) 0 ⟨by omega, fun j hj => absurd hj (by omega)⟩ ?_
  rintro k m hm ⟨hk, hall⟩
  refine run ?_
  refine st_cond _ rfl (fun hc => ?_) (fun hc => ?_)
  · have hlt : k < (P.gs i).maps.length := by simp at hc; omega
    obtain ⟨b2, o2, rfl⟩ := hne (by intro e; rw [e] at hlt; simp at hlt)
    have hrm := hrowm.row hlt
    simp only [mpV] at hrm
    have hmd : PtD.mapR (P.gs i).maps P.pages.length k = !(!(decide (0 ≤ ((P.gs i).maps.getD k default).mid) && decide (((P.gs i).maps.getD k default).mid ≤ 15)) || (decide (k > 0) && decide (((P.gs i).maps.getD (k - 1) default).mid ≥ ((P.gs i).maps.getD k default).mid)) || !(decide (0 ≤ ((P.gs i).maps.getD k default).frm) && decide (((P.gs i).maps.getD k default).frm ≤ (P.pages.length : Int) - 1)) || decide (PtD.mappedR (P.gs i).maps ((P.gs i).maps.getD k default).frm ≠ (k : Int))) := rfl
    generalize (P.gs i).maps.getD k default = x at hrm hmd
    refine run ?_
    intro X
    refine drawAll ?_
    refine runDG ?_
    refine callD (fun wc hG => num_e _ _ wc) ?_
    cases hb1 : (decide (0 ≤ x.mid) && decide (x.mid ≤ 15))
    · refine runDG ?_
      refine runG ?_
      refine st_cond _ rfl (fun hc => ?_) (fun hc => absurd hc (by simp))
      refine run ?_
      refine fin1 ?_
      rw [hone, hno _ _ k hlt (by rw [hmd, hb1]; rfl)]
      rfl
    rcases Nat.eq_zero_or_pos k with hk0 | hk0
    · have hk0' : decide (0 < (k : Int)) = false := by simp; omega
      refine runDG ?_
      simp only [hk0']
      refine runDG ?_
      refine callDG (fun h1 wc hG => num_e _ _ wc) ?_
      cases hb2 : (decide (0 ≤ x.frm) && decide (x.frm ≤ (P.pages.length : Int) - 1))
      · refine runDG ?_
        refine runG ?_
        refine st_cond _ rfl (fun hc => ?_) (fun hc => absurd hc (by simp))
        refine run ?_
        refine fin1 ?_
        rw [hone, hno _ _ k hlt (by rw [hmd, hb2]; simp)]
        rfl
      refine runDG ?_
      refine callDG (fun h1 wc hG => mappedR_e (P.gs i).maps _ wc (hrowm.good hG) x.frm) ?_
      refine runDG ?_
      refine runG ?_
      refine st_cond _ rfl (fun hc => ?_) (fun hc => ?_)
      · refine run ?_
        refine fin1 ?_
        rw [hone, hno _ _ k hlt (by rw [hmd]; simp at hc; simp [hc])]
        rfl
      · refine run ?_
        exact nextS (k + 1) ⟨by omega, hyes (PtD.mapR (P.gs i).maps P.pages.length) k hall (by rw [hmd, hb1, hb2]; rw [show decide (k > 0) = false by simpa using hk0]; simp at hc; simp [hc])⟩
    have hprev := hprev_of hrowm hlt hk0
    have hk0' : decide (0 < (k : Int)) = true := by simp; omega
    refine runDG ?_
    simp only [hk0']
    cases hc2 : decide (x.mid ≤ ((P.gs i).maps.getD (k - 1) default).mid)
    · refine callDG (fun h1 wc hG => num_e _ _ wc) ?_
      cases hb2 : (decide (0 ≤ x.frm) && decide (x.frm ≤ (P.pages.length : Int) - 1))
      · refine runDG ?_
        refine runG ?_
        refine st_cond _ rfl (fun hc => ?_) (fun hc => absurd hc (by simp))
        refine run ?_
        refine fin1 ?_
        rw [hone, hno _ _ k hlt (by rw [hmd, hb2]; simp)]
        rfl
      refine runDG ?_
      refine callDG (fun h1 wc hG => mappedR_e (P.gs i).maps _ wc (hrowm.good hG) x.frm) ?_
      refine runDG ?_
      refine runG ?_
      refine st_cond _ rfl (fun hc => ?_) (fun hc => ?_)
      · refine run ?_
        refine fin1 ?_
        rw [hone, hno _ _ k hlt (by rw [hmd]; simp at hc; simp [hc])]
        rfl
      · refine run ?_
        exact nextS (k + 1) ⟨by omega, hyes (PtD.mapR (P.gs i).maps P.pages.length) k hall (by rw [hmd, hb1, hb2]; rw [show decide (((P.gs i).maps.getD (k - 1) default).mid ≥ x.mid) = false from hc2]; simp at hc; simp [hc])⟩
    · refine runDG ?_
      refine runG ?_
      refine st_cond _ rfl (fun hc => ?_) (fun hc => absurd hc (by simp))
      refine run ?_
      refine fin1 ?_
      rw [hone, hno _ _ k hlt (by rw [hmd, show decide (((P.gs i).maps.getD (k - 1) default).mid ≥ x.mid) = true from hc2, show decide (k > 0) = true by simpa using hk0]; simp)]
      rfl
  have hge : k = (P.gs i).maps.length := by simp at hc; omega
  subst hge
  rw [show allB (P.gs i).maps.length (PtD.mapR (P.gs i).maps P.pages.length) = true from allB_iff.2 hall, Bool.true_and] at hone
  clear hall hm hk hc
  refine run ?_
  refine loopS (σ := Nat) (fun k => [(15, .int .i64 (k : Int))]) (fun s => [⟨G, #[.bool (P.gs i).live, .bool (P.gs i).dying, .int .i64 (P.gs i).first, .slice q2 (P.gs i).vcpus.length cap2, .slice q (P.gs i).maps.length cap], 63⟩, ⟨B, #[L.pv P.pages.length, L.gv P.guests.length, L.ov P.on.length], 26⟩]) (fun k => k ≤ P.pages.length ∧ ∀ j, j < k → P.useR i j = true) (fun k => P.pages.length - k) 0 ⟨by omega, fun j hj => absurd hj (by omega)⟩ ?_
  rintro k m hm ⟨hk, hall⟩
  refine run ?_
  refine st_cond _ rfl (fun hc => ?_) (fun hc => ?_)
  · have hlt : k < P.pages.length := by simp at hc; omega
    have hrp := h.pg k hlt
    refine run ?_
    intro X
    refine drawAll ?_
    refine runDG ?_
    refine callD (fun wc hG => mappedR_e (P.gs i).maps _ wc (hrowm.good hG) (k : Int)) ?_
    refine runDG ?_
    refine runG ?_
    refine st_cond _ rfl (fun hp => ?_) (fun hp => ?_)
    · refine run ?_
      refine fin1 ?_
      rw [hone, hno _ _ k hlt (by
        rw [← Bool.not_eq_true]; intro hu
        simp only [PtD.useR, beq_iff_eq] at hu
        rw [bne_iff_ne] at hp
        exact hp hu)]
    · refine run ?_
      exact nextS (k + 1) ⟨by omega, hyes (P.useR i) k hall (by simp only [PtD.useR, beq_iff_eq]; exact bne_eq_false_iff_eq.1 hp)⟩
  have hge : k = P.pages.length := by simp at hc; omega
  subst hge
  rw [show allB P.pages.length (P.useR i) = true from allB_iff.2 hall] at hone
  refine run ?_
  refine fin1 ?_
  rw [hone]
end
end Go.Proofs.YtdfkcjjbflcafaaGreat
