/- Layer 18 (part): the reference's test of a partition. -/
import Derived.Test.YtdfkcjjbflcafaaGreatPartI
namespace Go.Proofs.YtdfkcjjbflcafaaGreat
open Go.RowKit
set_option linter.unusedVariables false
set_option linter.unusedSimpArgs false
set_option maxRecDepth 20000
attribute [local irreducible] Hy St Ops DH DHF
set_option maxHeartbeats 4000000 in
theorem partR_e {w : World} {pv gv ov : Value} {P : PtD} (h : PartG w pv gv ov P) : Fn Tryz.prog 17 [.agg #[pv, gv, ov]].toArray w [] (fun u _ => u = .bool P.mayR) := by
  obtain ⟨p, pc, e1, _, hle1⟩ := h.pages.opened
  obtain ⟨o, oc, e3, _, hle3⟩ := h.on.opened
  obtain ⟨g, gc, e2, hle2⟩ : ∃ g gc, gv = .slice g P.guests.length gc ∧ P.guests.length ≤ 281474976710656 := by
    obtain ⟨vv, mv, ⟨⟨g, gc, e, _⟩, hl⟩, _⟩ := h.guests
    simp only [List.length_map, List.length_range] at e hl
    exact ⟨g, gc, e, hl⟩
  rw [e1, e2, e3]
  refine enter Tryz.func17 ?_
  refine run ?_
  intro B
  refine runG ?_
  have hlen : (decide ((P.pages.length : Int) < 24) || decide ((64 : Int) < (P.pages.length : Int)) || !decide ((P.guests.length : Int) = 4) || decide ((P.on.length : Int) < 1) || decide ((3 : Int) < (P.on.length : Int))) = (decide (P.pages.length < 24) || decide (P.pages.length > 64) || decide (P.guests.length ≠ 4) || decide (P.on.length < 1) || decide (P.on.length > 3)) := by
    rw [Bool.eq_iff_iff]
    simp only [Bool.or_eq_true, decide_eq_true_eq, Bool.not_eq_true', decide_eq_false_iff_not]
    omega
  refine st_cond _ rfl (fun hc => ?_) (fun hc => ?_)
  · refine run ?_
    refine fin1 ?_
    rw [hlen] at hc
    rw [PtD.mayR, hc]
    rfl
  rw [hlen] at hc
  have hmay : P.mayR = (allB P.pages.length P.pageR && allB 4 P.oneR && allB P.on.length P.seatR) := by rw [PtD.mayR, hc]; rfl
  have hn : P.Len := by
    simp only [Bool.or_eq_false_iff, decide_eq_false_iff_not] at hc
    exact ⟨by omega, by omega, by omega, by omega, by omega⟩
  have hno : ∀ (n : Nat) (p : Nat → Bool) (k : Nat), k < n → p k = false → allB n p = false := fun n p k hk h => by
    rw [← Bool.not_eq_true, allB_iff]; intro ha; rw [ha k hk] at h; cases h
  have hyes : ∀ (p : Nat → Bool) (k : Nat), (∀ j, j < k → p j = true) → p k = true → ∀ j, j < k + 1 → p j = true := fun p k h h2 j hj => by
    rcases Nat.lt_succ_iff_lt_or_eq.1 hj with hj | rfl
    · exact h j hj
    · exact h2
  obtain ⟨L, rfl, rfl, rfl, hv⟩ := h.open hn
  cases e1
  cases e2
  cases e3
  obtain ⟨np0, np1, ng4, no0, no1⟩ := hn
  refine run ?_
  refine loopS (σ := Nat) (fun k => [(4, .int .i64 (k : Int))]) (fun s => [⟨B, #[L.pv P.pages.length, L.gv P.guests.length, L.ov P.on.length], 26⟩]) (fun k => k ≤ P.pages.length ∧ ∀ j, j < k → P.pageR j = true) (fun k => P.pages.length - k) 0 ⟨by omega, fun j hj => absurd hj (by omega)⟩ ?_
  rintro k m hm ⟨hk, hall⟩
  refine run ?_
  refine st_cond _ rfl (fun hc => ?_) (fun hc => ?_)
  · have hlt : k < P.pages.length := by simp at hc; omega
    have hrp := hv.pg k hlt
    have hpr : P.pageR k = (!(!PtD.who (P.pg k).own || (!decide ((P.pg k).wit = -2) && !PtD.who (P.pg k).wit) || decide ((P.pg k).wit = (P.pg k).own)) &&
      !((P.hypR k != decide ((P.pg k).own = -1)) || (P.hypR k && !decide ((P.pg k).wit = -2))) &&
      !((decide ((P.pg k).own = 0) && decide (0 < (P.pg k).wit) && !P.guestR (P.pg k).wit) || (decide (0 < (P.pg k).own) && !decide ((P.pg k).wit = -2) && !decide ((P.pg k).wit = 0))) &&
      !(decide (0 < (P.pg k).own) && !(P.gs ((P.pg k).own - 1).toNat).live && (!(P.gs ((P.pg k).own - 1).toNat).dying || !decide ((P.pg k).wit = -2)))) := by
      simp only [PtD.pageR, ne_eq, decide_not, gt_iff_lt]
    have hbad : P.pageR k = false → P.mayR = false := fun h => by rw [hmay, hno _ _ k hlt h]; rfl
    have hcast : decide (k < 16) = decide ((k : Int) < 16) := by rw [decide_eq_decide]; omega
    have hhyp : P.hypR k = (decide ((k : Int) < 16) || decide (0 < P.tablesR (k : Int))) := by rw [PtD.hypR, hcast]
    have hwf := (hv.wf.pg k hlt).2
    generalize P.pg k = x at hrp hpr hwf
    refine run ?_
    intro X
    refine callE (fun wc hG => who_e _ wc) ?_
    refine runG ?_
    refine callEGG (fun h0 h1 wc hG => who_e x.wit wc) ?_
    refine runG ?_
    refine st_cond _ rfl (fun hc1 => ?_) (fun hc1 => ?_)
    · refine run ?_
      refine fin1 ?_
      rw [hbad (by rw [hpr, hc1]; rfl)]
    rw [hc1] at hpr
    refine runG ?_
    refine callEG (fun h1 wc hG => tablesR_e (hv.good hG) _ _ (by omega) (k : Int) ⟨by omega, by omega⟩) ?_
    refine runG ?_
    rw [← hhyp]
    refine st_cond _ rfl (fun hc2 => ?_) (fun hc2 => ?_)
    · refine run ?_
      refine fin1 ?_
      rw [hbad (by rw [hpr, hc2]; rfl)]
    rw [hc2] at hpr
    have hown : -1 ≤ x.own ∧ x.own ≤ 4 := by
      simp only [Bool.or_eq_false_iff, Bool.not_eq_false', PtD.who, Bool.and_eq_true, decide_eq_true_eq] at hc1
      exact hc1.1.1
    refine runG ?_
    refine callEG (fun h1 wc hG => guestR_e (hv.good hG) _ _ x.wit hwf) ?_
    refine runG ?_
    refine st_cond _ rfl (fun hc3 => ?_) (fun hc3 => ?_)
    · refine run ?_
      refine fin1 ?_
      rw [hbad (by rw [hpr, hc3]; rfl)]
    rw [hc3] at hpr
    cases hpos : decide (0 < x.own)
    · refine runG ?_
      simp only [hpos]
      refine runG ?_
      refine st_cond _ rfl (fun hc4 => absurd hc4 (by simp)) (fun hc4 => ?_)
      refine run ?_
      exact nextS (k + 1) ⟨by omega, hyes P.pageR k hall (by rw [hpr, hpos]; rfl)⟩
    · have hpos' : 0 < x.own := by simpa using hpos
      have hg0 := hv.gs0 (i := (x.own - 1).toNat) (by omega)
      have hg1 := hv.gs1 (i := (x.own - 1).toNat) (by omega)
      refine runG ?_
      refine st_cond _ rfl (fun hc4 => ?_) (fun hc4 => ?_)
      · refine run ?_
        refine fin1 ?_
        rw [hbad (by rw [hpr, hc4]; rfl)]
      · refine run ?_
        exact nextS (k + 1) ⟨by omega, hyes P.pageR k hall (by rw [hpr, hc4]; rfl)⟩
  have hge : k = P.pages.length := by simp at hc; omega
  subst hge
  rw [show allB P.pages.length P.pageR = true from allB_iff.2 hall, Bool.true_and] at hmay
  clear hall hm hk hc
  refine run ?_
  refine loopS (σ := Nat) (fun k => [(7, .int .i64 (k : Int))]) (fun s => [⟨B, #[L.pv P.pages.length, L.gv P.guests.length, L.ov P.on.length], 26⟩]) (fun k => k ≤ 4 ∧ ∀ j, j < k → P.oneR j = true) (fun k => 4 - k) 0 ⟨by omega, fun j hj => absurd hj (by omega)⟩ ?_
  rintro k m hm ⟨hk, hall⟩
  refine run ?_
  refine st_cond _ rfl (fun hc => ?_) (fun hc => ?_)
  · have hlt : k < 4 := by simp at hc; omega
    refine run ?_
    refine callE (fun wc hG => guestOne_e (hv.good hG) ⟨np0, np1, ng4, no0, no1⟩ k (by omega) ((k : Int) + 1) rfl) ?_
    refine run ?_
    refine st_cond _ rfl (fun hp => ?_) (fun hp => ?_)
    · refine run ?_
      refine fin1 ?_
      rw [hmay, hno 4 _ k hlt (by simpa using hp)]
      rfl
    · refine run ?_
      exact nextS (k + 1) ⟨by omega, hyes P.oneR k hall (by simpa using hp)⟩
  have hge : k = 4 := by simp at hc; omega
  subst hge
  rw [show allB 4 P.oneR = true from allB_iff.2 hall, Bool.true_and] at hmay
  clear hall hm hk hc
  refine run ?_
  refine loopS (σ := Nat) (fun k => [(8, .int .i64 (k : Int))]) (fun s => [⟨B, #[L.pv P.pages.length, L.gv P.guests.length, L.ov P.on.length], 26⟩]) (fun k => k ≤ P.on.length ∧ ∀ j, j < k → P.seatR j = true) (fun k => P.on.length - k) 0 ⟨by omega, fun j hj => absurd hj (by omega)⟩ ?_
  rintro k m hm ⟨hk, hall⟩
  refine run ?_
  refine st_cond _ rfl (fun hc => ?_) (fun hc => ?_)
  · have hlt : k < P.on.length := by simp at hc; omega
    have hrs := hv.st k hlt
    have hsr : P.seatR k = !((decide ((P.st k).vm = 0) && !decide ((P.st k).cpu = 0)) || (!decide ((P.st k).vm = 0) && (!P.guestR (P.st k).vm || decide ((P.st k).cpu < 0) || decide ((((P.gs ((P.st k).vm - 1).toNat).vcpus.length : Nat) : Int) ≤ (P.st k).cpu) || !decide ((P.gs ((P.st k).vm - 1).toNat).vcpus.getD (P.st k).cpu.toNat 0 = (k : Int))))) := by
      simp only [PtD.seatR, ne_eq, decide_not, ge_iff_le]
    have hbad : P.seatR k = false → P.mayR = false := fun h => by rw [hmay, hno _ _ k hlt h]
    obtain ⟨hwf, hwf2⟩ := hv.wf.st k hlt
    generalize P.st k = x at hrs hsr hwf hwf2
    refine run ?_
    intro X
    refine drawAll ?_
    refine runDG ?_
    cases h0 : decide (x.vm = 0)
    case true =>
      rw [h0] at hsr
      cases hz : decide (x.cpu = 0)
      · refine runDG ?_
        refine runG ?_
        refine st_cond _ rfl (fun hp => ?_) (fun hp => absurd hp (by simp))
        refine run ?_
        refine fin1 ?_
        rw [hbad (by rw [hsr, hz]; rfl)]
      · refine runDG ?_
        refine runG ?_
        refine st_cond _ rfl (fun hp => absurd hp (by simp)) (fun hp => ?_)
        refine run ?_
        exact nextS (k + 1) ⟨by omega, hyes P.seatR k hall (by rw [hsr, hz]; rfl)⟩
    rw [h0] at hsr
    refine callDGG (fun h0 h1 wc hG => guestR_e (hv.good hG) _ _ x.vm hwf) ?_
    cases hgu : P.guestR x.vm
    case false =>
      rw [hgu] at hsr
      refine runDG ?_
      refine runG ?_
      refine st_cond _ rfl (fun hp => ?_) (fun hp => absurd hp (by simp))
      refine run ?_
      refine fin1 ?_
      rw [hbad (by rw [hsr]; simp)]
    rw [hgu] at hsr
    have hgu' := hgu
    simp only [PtD.guestR, Bool.and_eq_true, decide_eq_true_eq] at hgu'
    have hi4 : (x.vm - 1).toNat < P.guests.length := by omega
    obtain ⟨q2, cap2, hvv, hne2, hle2⟩ := (hv.vc _ hi4).opened
    have hg3 := hv.gs3 hi4
    have hrow := hv.vc _ hi4
    rw [hvv] at hg3 hrow
    refine runDG ?_
    cases hlo : decide (x.cpu < 0)
    case true =>
      rw [hlo] at hsr
      refine runDG ?_
      refine runG ?_
      refine st_cond _ rfl (fun hp => ?_) (fun hp => absurd hp (by simp))
      refine run ?_
      refine fin1 ?_
      rw [hbad (by rw [hsr]; simp)]
    rw [hlo] at hsr
    refine runDG ?_
    cases hhi : decide ((((P.gs (x.vm - 1).toNat).vcpus.length : Nat) : Int) ≤ x.cpu)
    case true =>
      rw [hhi] at hsr
      refine runDG ?_
      refine runG ?_
      refine st_cond _ rfl (fun hp => ?_) (fun hp => absurd hp (by simp))
      refine run ?_
      refine fin1 ?_
      rw [hbad (by rw [hsr]; simp)]
    rw [hhi] at hsr
    simp only [decide_eq_false_iff_not] at hlo hhi
    obtain ⟨b2, o2, rfl⟩ := hne2 (by intro e; rw [e] at hhi; simp at hhi; omega)
    have hx := rangeAt_cell0 (hrow.row (k := x.cpu.toNat) (by omega))
    rw [Nat.mul_one, show (default : Int) = 0 from rfl] at hx
    refine runDG ?_
    refine runG ?_
    refine st_cond _ rfl (fun hp => ?_) (fun hp => ?_)
    · refine run ?_
      refine fin1 ?_
      rw [hbad (by rw [hsr]; simp at hp; simp [hp])]
    · refine run ?_
      exact nextS (k + 1) ⟨by omega, hyes P.seatR k hall (by rw [hsr]; simp at hp; simp [hp])⟩
  have hge : k = P.on.length := by simp at hc; omega
  subst hge
  rw [show allB P.on.length P.seatR = true from allB_iff.2 hall] at hmay
  refine run ?_
  refine fin1 ?_
  rw [hmay]
end Go.Proofs.YtdfkcjjbflcafaaGreat
