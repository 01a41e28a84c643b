/- Library: the search functions of slices. -/
import Derived.Test.YtdfkcjjbflcafaaGreatPartA
namespace Go.Proofs.YtdfkcjjbflcafaaGreat
open Go.RowKit
set_option linter.unusedVariables false
set_option linter.unusedSimpArgs false
set_option maxRecDepth 20000
attribute [local irreducible] Hy St Ops DH DHF

theorem indexPage_e {w : World} {F : Nat} {us : List Value} (p : PgD → Bool) (xs : List PgD) (v : Value) (h : SlAt w v 2 (xs.map pgV)) (hF : ∀ x, ∀ w', Aft w w' → Fn Tryz.prog F ([] ++ [Value.agg #[.int .i64 x.own, .int .i64 x.wit]] ++ us).toArray w' [] (fun u _ => u = .bool (p x))) (hcal : mem calN F = true := by rfl) :
    Fn Tryz.prog 108 [v, .func (.func F) [].toArray us.toArray].toArray w [] (fun u _ => u = .int .i64 (idxI p xs)) := by
  obtain ⟨q, cap, rfl, hne, hle⟩ := h.opened
  refine enter Tryz.func108 ?_
  refine run ?_
  refine loopS (σ := Nat) (fun k => [(8, .int .i64 (k : Int))]) (fun _ => []) (fun k => k ≤ xs.length ∧ ∀ j, j < k → p (xs.getD j default) = false) (fun k => xs.length - k) 0 ⟨Nat.zero_le _, fun j hj => absurd hj (by omega)⟩ ?_
  rintro k m rfl ⟨hk, hno⟩
  refine run ?_
  refine st_cond _ rfl (fun hc => ?_) (fun hc => ?_)
  · have hlt : k < xs.length := by simpa using hc
    obtain ⟨b, o, rfl⟩ := hne (by intro e; subst e; simp at hlt)
    have hr := h.row hlt
    simp only [pgV] at hr
    refine run ?_
    refine callF (fun wc hG => hF (xs.getD k default) wc ⟨_, hG⟩) (hcal := hcal) ?_
    refine run ?_
    refine st_cond _ rfl (fun hp => ?_) (fun hp => ?_)
    · refine run ?_
      refine fin1 ?_
      rw [idxI_at hlt hp hno]
    · refine run ?_
      refine nextS (k + 1) ⟨hlt, fun j hj => ?_⟩
      rcases Nat.lt_succ_iff_lt_or_eq.1 hj with hj | rfl
      · exact hno j hj
      · exact hp
  · have hge : k = xs.length := by simp at hc; omega
    subst hge
    refine run ?_
    refine fin1 ?_
    rw [idxI_none hno]
theorem containsPage_e {w : World} {F : Nat} {us : List Value} (p : PgD → Bool) (xs : List PgD) (v : Value) (h : SlAt w v 2 (xs.map pgV)) (hF : ∀ x, ∀ w', Aft w w' → Fn Tryz.prog F ([] ++ [Value.agg #[.int .i64 x.own, .int .i64 x.wit]] ++ us).toArray w' [] (fun u _ => u = .bool (p x))) (hcal : mem calN F = true := by rfl) :
    Fn Tryz.prog 90 [v, .func (.func F) [].toArray us.toArray].toArray w [] (fun u _ => u = .bool (xs.any p)) := by
  refine enter Tryz.func90 ?_
  refine run ?_
  refine callE (fun wc hG => indexPage_e p xs v (h.good hG) (fun x w' ha => hF x w' ?_) hcal) ?_
  · obtain ⟨hp, hg⟩ := ha
    exact ⟨_, hG.trans hg⟩
  refine run ?_
  refine fin1 ?_
  rw [← idxI_ge]

theorem indexInt_e {w : World} (a : Int) (xs : List Int) (v : Value) (h : SlAt w v 1 (xs.map inV)) :
    Fn Tryz.prog 100 [v, .int .i64 a].toArray w [] (fun u _ => u = .int .i64 (idxI (fun t => decide (t = a)) xs)) := by
  obtain ⟨q, cap, rfl, hne, hle⟩ := h.opened
  refine enter Tryz.func100 ?_
  refine run ?_
  refine loopS (σ := Nat) (fun k => [(8, .int .i64 (k : Int))]) (fun _ => []) (fun k => k ≤ xs.length ∧ ∀ j, j < k → decide (xs.getD j default = a) = false) (fun k => xs.length - k) 0 ⟨Nat.zero_le _, fun j hj => absurd hj (by omega)⟩ ?_
  rintro k m rfl ⟨hk, hno⟩
  refine run ?_
  refine st_cond _ rfl (fun hc => ?_) (fun hc => ?_)
  · have hlt : k < xs.length := by simpa using hc
    obtain ⟨b, o, rfl⟩ := hne (by intro e; subst e; simp at hlt)
    have hr := rangeAt_cell0 (h.row hlt)
    have hr1 := hr
    simp only [Nat.mul_one] at hr1
    refine run ?_
    refine st_cond _ rfl (fun hp => ?_) (fun hp => ?_)
    · refine run ?_
      refine fin1 ?_
      rw [idxI_at hlt (by simpa [eq_comm] using hp) hno]
    · refine run ?_
      refine nextS (k + 1) ⟨hlt, fun j hj => ?_⟩
      rcases Nat.lt_succ_iff_lt_or_eq.1 hj with hj | rfl
      · exact hno j hj
      · simpa [eq_comm] using hp
  · have hge : k = xs.length := by simp at hc; omega
    subst hge
    refine run ?_
    refine fin1 ?_
    rw [idxI_none hno]
theorem containsInt_e {w : World} (a : Int) (xs : List Int) (v : Value) (h : SlAt w v 1 (xs.map inV)) :
    Fn Tryz.prog 76 [v, .int .i64 a].toArray w [] (fun u _ => u = .bool (xs.any fun t => decide (t = a))) := by
  refine enter Tryz.func76 ?_
  refine run ?_
  refine callE (fun wc hG => indexInt_e a xs v (h.good hG)) ?_
  refine run ?_
  refine fin1 ?_
  rw [← idxI_ge]
end Go.Proofs.YtdfkcjjbflcafaaGreat
