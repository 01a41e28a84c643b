/- Layers 9, 10: the program's Check, may, Copy. -/
import Derived.Test.YtcjbpdejlfomkaaTlD
namespace Go.Proofs.Ytcjbpdejlfomkaa
open Go.RowKit
set_option linter.unusedVariables false
set_option linter.unusedSimpArgs false
set_option maxRecDepth 20000
attribute [local irreducible] Hy St Ops DH DHF
theorem check1_e (i : IvD) (w : World) : Fn Try.prog 96 ([] ++ [Value.agg (ivV i).toArray] ++ []).toArray w [] (fun u _ => u = .bool (!i.may)) := by
  refine enter Try.func96 ?_
  refine run ?_
  intro B
  refine callE (fun wc hG => due_e i wc) ?_
  refine run ?_
  exact fin1 rfl
theorem tCheck_e {w : World} (es : List EnD) (ds : List IvD) (v u : Value) (h : SlAt w v 14 (es.map enV)) (hd : SlAt w u 4 (ds.map ivV)) (hcap : ∃ q c, v = .slice q es.length c ∧ es.length ≤ c) :
    Fn Try.prog 53 [.agg #[v, u]].toArray w [] (fun r _ => r = .int .i64 (bif tlbOk es ds then 0 else 1)) := by
  obtain ⟨q, cap, rfl, hne, hle⟩ := h.opened
  obtain ⟨q2, cap2, rfl, hne2, hle2⟩ := hd.opened
  replace hcap : es.length ≤ cap := by
    obtain ⟨_, _, e, hc⟩ := hcap
    injection e with _ _ e
    rw [e]; exact hc
  refine enter Try.func53 ?_
  refine run ?_
  intro B
  refine runG ?_
  refine st_cond _ rfl (fun hc => ?_) (fun hc => ?_)
  · refine run ?_
    refine fin1 ?_
    have : tlbOk es ds = false := by
      unfold tlbOk
      simp only [Bool.or_eq_true, decide_eq_true_eq] at hc
      have h2 : (decide (es.length ≤ 8) && decide (ds.length ≤ 8)) = false := by
        rcases hc with hc | hc
        · rw [decide_eq_false (p := es.length ≤ 8) (by omega), Bool.false_and]
        · rw [decide_eq_false (p := ds.length ≤ 8) (by omega), Bool.and_false]
      rw [Bool.and_assoc, h2, Bool.and_false]
    rw [this]; rfl
  have h8 : es.length ≤ 8 ∧ ds.length ≤ 8 := by
    simp at hc; omega
  refine run ?_
  refine loopS (σ := Nat) (fun k => [(18, .int .i64 (k : Int))]) (fun _ => [⟨B, #[.slice q es.length cap, .slice q2 ds.length cap2], 48⟩]) (fun k => k ≤ es.length ∧ ∀ j, j < k → enOk es j = true) (fun k => es.length - k) 0 ⟨Nat.zero_le _, fun j hj => absurd hj (by omega)⟩ ?_
  rintro k m rfl ⟨hk, hno⟩
  refine run ?_
  refine st_cond _ rfl (fun hc => ?_) (fun hc => ?_)
  · have hlt : k < es.length := by simpa using hc
    obtain ⟨b, o, rfl⟩ := hne (by intro e; subst e; simp at hlt)
    have hr := h.row hlt
    refine run ?_
    intro X
    refine run ?_
    refine drawAll ?_
    refine runD ?_
    refine callD (fun wc hG => enMay_e (es.getD k default) wc) ?_
    refine runDG ?_
    refine opDG (v := .slice (some ⟨b, o, none⟩) k cap) (hy := fun hg => x_sliceH tb_ok (by (simp only [hg, gv_true]; rfl)) (by (simp only [hg, gv_true]; rfl)) (by rfl) (by omega) (by omega) (m' := k) (by simp) (.inr ⟨_, _, rfl⟩)) (h := ?_)
    refine runDG ?_
    refine callDG (fun hg wc hG => containsEn_e (es.getD k default) (es.take k) _ ((h.good hG).takeN (by omega))) ?_
    refine runDG ?_
    refine run ?_
    have he : (!(es.getD k default).may || (es.take k).any fun t => decide (t = es.getD k default)) = !enOk es k := by
      unfold enOk
      rw [Bool.not_and, Bool.not_not]
    rw [he]
    refine st_cond _ rfl (fun hp => ?_) (fun hp => ?_)
    · refine run ?_
      refine fin1 ?_
      rw [tlbOk_e hlt (by simpa using hp)]; rfl
    · refine run ?_
      refine nextS (k + 1) ⟨hlt, fun j hj => ?_⟩
      rcases Nat.lt_succ_iff_lt_or_eq.1 hj with hj | rfl
      · exact hno j hj
      · simpa using hp
  · have hge : k = es.length := by simp at hc; omega
    subst hge
    refine run ?_
    refine callE (fun wc hG => containsFIv_e (us := []) (fun x => !x.may) ds _ (hd.good hG) (fun x _ w' ha => check1_e x w')) ?_
    refine run ?_
    have he : (ds.any fun x => !x.may) = !ds.all IvD.may := by rw [List.not_all_eq_any_not]
    rw [he]
    refine st_cond _ rfl (fun hp => ?_) (fun hp => ?_)
    · refine run ?_
      refine fin1 ?_
      have : tlbOk es ds = false := by
        unfold tlbOk
        rw [show ds.all IvD.may = false by simpa using hp]; simp
      rw [this]; rfl
    · refine run ?_
      refine fin1 ?_
      have : tlbOk es ds = true := by
        unfold tlbOk
        rw [all_upto hno, show ds.all IvD.may = true by simpa using hp, decide_eq_true h8.1, decide_eq_true h8.2]; rfl
      rw [this]; rfl
end Go.Proofs.Ytcjbpdejlfomkaa
