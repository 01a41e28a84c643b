/- Layer 18 (part): how much a partition is; the reference's first one. -/
import Derived.Test.YtdfkcjjbflcafaaGreatPartK
namespace Go.Proofs.YtdfkcjjbflcafaaGreat
open Go.RowKit
set_option linter.unusedVariables false
set_option linter.unusedSimpArgs false
set_option maxRecDepth 20000
attribute [local irreducible] Hy St Ops DH DHF
/-- It is small. -/
structure PtD.Small (P : PtD) (n : Nat) : Prop where
  pg : P.pages.length ≤ n
  gs : P.guests.length ≤ n
  on : P.on.length ≤ n
  vc : ∀ i, i < P.guests.length → (P.gs i).vcpus.length ≤ n ∧ (P.gs i).maps.length ≤ n
section
variable {w : World} {pv gv ov : Value} {P : PtD}
theorem weight_e (h : PartG w pv gv ov P) : Fn Tryz.prog 22 [.agg #[pv, gv, ov]].toArray w [] (fun u _ => ∃ n : Int, u = .int .i64 n ∧ (n ≤ 600 → P.Small 600)) := by
  obtain ⟨p1, ⟨vv, mv, ⟨⟨g, gc, e2, hg⟩, hl⟩, g2⟩, o1, wf⟩ := h
  obtain ⟨p, pc, rfl, _, hl1⟩ := p1.opened
  obtain ⟨o, oc, rfl, _, hl2⟩ := o1.opened
  subst e2
  simp only [List.length_map, List.length_range] at hl ⊢
  refine enter Tryz.func22 ?_
  refine run ?_
  intro B
  refine run ?_
  refine loopS (σ := Nat × Int) (fun s => [(3, .int .i64 s.2), (4, .int .i64 (s.1 : Int))]) (fun s => [⟨B, #[.slice p P.pages.length pc, .slice g P.guests.length gc, .slice o P.on.length oc], 26⟩]) (fun s => s.1 ≤ P.guests.length ∧ (P.pages.length : Int) + P.guests.length + P.on.length ≤ s.2 ∧ s.2 ≤ 3000000000000000 ∧ ∀ j, j < s.1 → ((P.gs j).vcpus.length : Int) + (P.gs j).maps.length ≤ s.2) (fun s => P.guests.length - s.1) (0, (P.pages.length : Int) + P.guests.length + P.on.length) ⟨by omega, by simp, by dsimp only; omega, fun j hj => absurd hj (by simp)⟩ ?_
  rintro ⟨k, n⟩ m hm ⟨hk, h0, h1, h2⟩
  dsimp only at hm hk h0 h1 h2 ⊢
  refine runG ?_
  refine st_cond _ rfl (fun hc => ?_) (fun hc => ?_)
  · simp only [Bool.and_eq_true, decide_eq_true_eq] at hc
    have hlt : k < P.guests.length := by omega
    obtain ⟨b, o, rfl, hr⟩ := hg (fun e => by rw [List.map_eq_nil_iff, List.range_eq_nil] at e; omega)
    have hr := hr k _ (getD_range_map _ hlt)
    obtain ⟨a1, a2⟩ := g2 k hlt
    obtain ⟨q, qc, ev, _, lv⟩ := a1.opened
    obtain ⟨q2, qc2, em, _, lm⟩ := a2.opened
    rw [ev, em] at hr
    have hc3 := rangeAt_cell (k := 3) hr rfl
    have hc4 := rangeAt_cell (k := 4) hr rfl
    refine run ?_
    refine drawN 17 ?_
    refine runD ?_
    refine run ?_
    refine nextS (k + 1, n + ((P.gs k).vcpus.length : Int) + ((P.gs k).maps.length : Int)) ⟨by omega, by dsimp only; omega, by dsimp only; omega, fun j hj => ?_⟩
    dsimp only at hj ⊢
    rcases Nat.lt_succ_iff_lt_or_eq.1 hj with hj | rfl
    · have := h2 j hj; omega
    · omega
  · refine run ?_
    refine fin1 ?_
    refine ⟨n, rfl, fun hn => ⟨by omega, by omega, by omega, fun i hi => ?_⟩⟩
    have : k = P.guests.length := by
      simp only [Bool.and_eq_false_iff, decide_eq_false_iff_not] at hc
      omega
    subst this
    have := h2 i hi
    omega
theorem heavy_e {lv : Value} {lp : Option Addr} {ln lc : Nat} (hlv : lv = .slice lp ln lc) (h : PartG w pv gv ov P) : Fn Tryz.prog 15 [.agg #[pv, gv, ov, lv]].toArray w [] (fun u _ => ∃ b, u = .bool b ∧ (b = false → P.Small 600 ∧ ln ≤ 500)) := by
  subst hlv
  obtain ⟨a1, a2, a3⟩ := h.agg
  refine enter Tryz.func15 ?_
  refine run ?_
  intro B
  refine run ?_
  refine callV (fun wc hG => (weight_e (h.good hG))) ?_
  rintro _ ⟨n, rfl, hn⟩
  refine runG ?_
  refine fin1 ?_
  refine ⟨_, rfl, fun hb => ?_⟩
  simp only [Bool.or_eq_false_iff, decide_eq_false_iff_not] at hb
  exact ⟨hn (by omega), by omega⟩
end
end Go.Proofs.YtdfkcjjbflcafaaGreat
