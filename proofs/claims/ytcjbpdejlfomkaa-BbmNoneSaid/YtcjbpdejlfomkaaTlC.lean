/- Library: the search functions of slices, and Clone, at entries and what takes them away. -/
import Derived.Test.YtcjbpdejlfomkaaTlB
namespace Go.Proofs.Ytcjbpdejlfomkaa
open Go.RowKit
set_option linter.unusedVariables false
set_option linter.unusedSimpArgs false
set_option maxRecDepth 20000
abbrev AftB (w w' : World) : Prop := ∃ hp, Good w [] hp w'
attribute [local irreducible] Hy St Ops DH DHF
theorem indexFNum_e {w : World} {F : Nat} {us : List Value} (p : Int → Bool) (xs : List (Int)) (v : Value) (h : SlAt w v 1 (xs.map inV)) (hF : ∀ x, x ∈ xs → ∀ w', AftB w w' → Fn Try.prog F ([] ++ [Value.int .i64 x] ++ us).toArray w' [] (fun u _ => u = .bool (p x))) (hcal : mem calN F = true := by rfl) :
    Fn Try.prog 166 [v, .func (.func F) [].toArray us.toArray].toArray w [] (fun u _ => u = .int .i64 (idxI p xs)) := by
  obtain ⟨q, cap, rfl, hne, hle⟩ := h.opened
  refine enter Try.func166 ?_
  refine run ?_
  refine loopS (σ := Nat) (fun k => [(8, .int .i64 (k : Int))]) (fun _ => []) (fun k => k ≤ xs.length ∧ ∀ j, j < k → p (xs.getD j default) = false) (fun k => xs.length - k) 0 ⟨Nat.zero_le _, fun j hj => absurd hj (by omega)⟩ ?_
  rintro k m rfl ⟨hk, hno⟩
  refine run ?_
  refine st_cond _ rfl (fun hc => ?_) (fun hc => ?_)
  · have hlt : k < xs.length := by simpa using hc
    obtain ⟨b, o, rfl⟩ := hne (by intro e; subst e; simp at hlt)
    have hr := rangeAt_cell0 (h.row hlt)
    simp only [Nat.mul_one] at hr
    refine run ?_
    refine callF (fun wc hG => hF (xs.getD k default) (getD_mem hlt) wc ⟨_, hG⟩) (hcal := hcal) ?_
    refine run ?_
    refine st_cond _ rfl (fun hp => ?_) (fun hp => ?_)
    · refine run ?_
      refine fin1 ?_
      rw [idxI_at hlt hp hno]
    · refine run ?_
      refine nextS (k + 1) ⟨hlt, fun j hj => ?_⟩
      rcases Nat.lt_succ_iff_lt_or_eq.1 hj with hj | rfl
      · exact hno j hj
      · exact hp
  · have hge : k = xs.length := by simp at hc; omega
    subst hge
    refine run ?_
    refine fin1 ?_
    rw [idxI_none hno]
theorem indexFIv_e {w : World} {F : Nat} {us : List Value} (p : IvD → Bool) (xs : List (IvD)) (v : Value) (h : SlAt w v 4 (xs.map ivV)) (hF : ∀ x, x ∈ xs → ∀ w', AftB w w' → Fn Try.prog F ([] ++ [Value.agg (ivV x).toArray] ++ us).toArray w' [] (fun u _ => u = .bool (p x))) (hcal : mem calN F = true := by rfl) :
    Fn Try.prog 138 [v, .func (.func F) [].toArray us.toArray].toArray w [] (fun u _ => u = .int .i64 (idxI p xs)) := by
  obtain ⟨q, cap, rfl, hne, hle⟩ := h.opened
  refine enter Try.func138 ?_
  refine run ?_
  refine loopS (σ := Nat) (fun k => [(8, .int .i64 (k : Int))]) (fun _ => []) (fun k => k ≤ xs.length ∧ ∀ j, j < k → p (xs.getD j default) = false) (fun k => xs.length - k) 0 ⟨Nat.zero_le _, fun j hj => absurd hj (by omega)⟩ ?_
  rintro k m rfl ⟨hk, hno⟩
  refine run ?_
  refine st_cond _ rfl (fun hc => ?_) (fun hc => ?_)
  · have hlt : k < xs.length := by simpa using hc
    obtain ⟨b, o, rfl⟩ := hne (by intro e; subst e; simp at hlt)
    have hr := h.row hlt
    refine run ?_
    refine callF (fun wc hG => hF (xs.getD k default) (getD_mem hlt) wc ⟨_, hG⟩) (hcal := hcal) ?_
    refine run ?_
    refine st_cond _ rfl (fun hp => ?_) (fun hp => ?_)
    · refine run ?_
      refine fin1 ?_
      rw [idxI_at hlt hp hno]
    · refine run ?_
      refine nextS (k + 1) ⟨hlt, fun j hj => ?_⟩
      rcases Nat.lt_succ_iff_lt_or_eq.1 hj with hj | rfl
      · exact hno j hj
      · exact hp
  · have hge : k = xs.length := by simp at hc; omega
    subst hge
    refine run ?_
    refine fin1 ?_
    rw [idxI_none hno]
theorem indexFEn_e {w : World} {F : Nat} {us : List Value} (p : EnD → Bool) (xs : List (EnD)) (v : Value) (h : SlAt w v 14 (xs.map enV)) (hF : ∀ x, x ∈ xs → ∀ w', AftB w w' → Fn Try.prog F ([] ++ [Value.agg (enV x).toArray] ++ us).toArray w' [] (fun u _ => u = .bool (p x))) (hcal : mem calN F = true := by rfl) :
    Fn Try.prog 142 [v, .func (.func F) [].toArray us.toArray].toArray w [] (fun u _ => u = .int .i64 (idxI p xs)) := by
  obtain ⟨q, cap, rfl, hne, hle⟩ := h.opened
  refine enter Try.func142 ?_
  refine run ?_
  refine loopS (σ := Nat) (fun k => [(8, .int .i64 (k : Int))]) (fun _ => []) (fun k => k ≤ xs.length ∧ ∀ j, j < k → p (xs.getD j default) = false) (fun k => xs.length - k) 0 ⟨Nat.zero_le _, fun j hj => absurd hj (by omega)⟩ ?_
  rintro k m rfl ⟨hk, hno⟩
  refine run ?_
  refine st_cond _ rfl (fun hc => ?_) (fun hc => ?_)
  · have hlt : k < xs.length := by simpa using hc
    obtain ⟨b, o, rfl⟩ := hne (by intro e; subst e; simp at hlt)
    have hr := h.row hlt
    refine run ?_
    refine callF (fun wc hG => hF (xs.getD k default) (getD_mem hlt) wc ⟨_, hG⟩) (hcal := hcal) ?_
    refine run ?_
    refine st_cond _ rfl (fun hp => ?_) (fun hp => ?_)
    · refine run ?_
      refine fin1 ?_
      rw [idxI_at hlt hp hno]
    · refine run ?_
      refine nextS (k + 1) ⟨hlt, fun j hj => ?_⟩
      rcases Nat.lt_succ_iff_lt_or_eq.1 hj with hj | rfl
      · exact hno j hj
      · exact hp
  · have hge : k = xs.length := by simp at hc; omega
    subst hge
    refine run ?_
    refine fin1 ?_
    rw [idxI_none hno]
theorem containsFNum_e {w : World} {F : Nat} {us : List Value} (p : Int → Bool) (xs : List (Int)) (v : Value) (h : SlAt w v 1 (xs.map inV)) (hF : ∀ x, x ∈ xs → ∀ w', AftB w w' → Fn Try.prog F ([] ++ [Value.int .i64 x] ++ us).toArray w' [] (fun u _ => u = .bool (p x))) (hcal : mem calN F = true := by rfl) :
    Fn Try.prog 158 [v, .func (.func F) [].toArray us.toArray].toArray w [] (fun u _ => u = .bool (xs.any p)) := by
  refine enter Try.func158 ?_
  refine run ?_
  refine callE (fun wc hG => indexFNum_e p xs v (h.good hG) (fun x hx w' ha => hF x hx w' ?_) hcal) ?_
  · obtain ⟨hp, hg⟩ := ha
    exact ⟨_, hG.trans hg⟩
  refine run ?_
  refine fin1 ?_
  rw [← idxI_ge]
theorem containsFIv_e {w : World} {F : Nat} {us : List Value} (p : IvD → Bool) (xs : List (IvD)) (v : Value) (h : SlAt w v 4 (xs.map ivV)) (hF : ∀ x, x ∈ xs → ∀ w', AftB w w' → Fn Try.prog F ([] ++ [Value.agg (ivV x).toArray] ++ us).toArray w' [] (fun u _ => u = .bool (p x))) (hcal : mem calN F = true := by rfl) :
    Fn Try.prog 95 [v, .func (.func F) [].toArray us.toArray].toArray w [] (fun u _ => u = .bool (xs.any p)) := by
  refine enter Try.func95 ?_
  refine run ?_
  refine callE (fun wc hG => indexFIv_e p xs v (h.good hG) (fun x hx w' ha => hF x hx w' ?_) hcal) ?_
  · obtain ⟨hp, hg⟩ := ha
    exact ⟨_, hG.trans hg⟩
  refine run ?_
  refine fin1 ?_
  rw [← idxI_ge]
theorem cloneEntries_e {w : World} (v : Value) (xs : List (List Value)) (h : SlAt w v 14 xs) (hall : ∀ c ∈ xs, c.length = 14 ∧ c.all (·.oneCell') = true) (hl : xs.length < 1000000) : Fn Try.prog 140 [v].toArray w [] (fun u hn => Own 50 14 u hn xs) := by
  obtain ⟨⟨q, cap, rfl, hne⟩, _⟩ := h
  refine enter Try.func140 ?_
  refine run ?_
  refine op1 (by rfl) (x_nilS tb_ok rfl rfl) ?_
  refine run ?_
  refine st_cond _ rfl (fun hp => ?_) (fun hp => ?_)
  · obtain rfl : xs = [] := by
      rcases Classical.em (xs = []) with h | h
      · exact h
      · obtain ⟨b, o, rfl, _⟩ := hne h; cases hp
    refine run ?_
    refine fin1 ?_
    exact ⟨by simp, .inl ⟨rfl, rfl, rfl⟩⟩
  refine run ?_
  refine z_bslice0 tb_ok (by rfl) (by rfl) (fun g => ?_)
  refine run ?_
  rcases Classical.em (xs = []) with rfl | hx
  · cases q with
    | none => cases hp
    | some q =>
    refine op1 (by rfl) (x_append0 tb_ok (by_ := 0) rfl rfl rfl (Nat.le_refl _)) ?_
    refine run ?_
    refine fin1 ?_
    exact ⟨by simp, .inr ⟨g, 0, #[], rfl, rfl, ⟨rfl, Nat.le_refl _, by decide, rfl, rfl⟩⟩⟩
  · obtain ⟨b, o, rfl, hr⟩ := hne hx
    refine z_appendAll tb_ok (by rfl) rfl ⟨rfl, Nat.le_refl _, by decide, rfl, rfl⟩ rfl rfl rfl rfl rfl rfl (.refl _) rfl hall hr (by simp) hl (fun v' ha' hA => ?_)
    refine run ?_
    refine fin1 ?_
    rw [List.append_nil]
    exact hA
theorem cloneInvals_e {w : World} (v : Value) (xs : List (List Value)) (h : SlAt w v 4 xs) (hall : ∀ c ∈ xs, c.length = 4 ∧ c.all (·.oneCell') = true) (hl : xs.length < 1000000) : Fn Try.prog 141 [v].toArray w [] (fun u hn => Own 115 4 u hn xs) := by
  obtain ⟨⟨q, cap, rfl, hne⟩, _⟩ := h
  refine enter Try.func141 ?_
  refine run ?_
  refine op1 (by rfl) (x_nilS tb_ok rfl rfl) ?_
  refine run ?_
  refine st_cond _ rfl (fun hp => ?_) (fun hp => ?_)
  · obtain rfl : xs = [] := by
      rcases Classical.em (xs = []) with h | h
      · exact h
      · obtain ⟨b, o, rfl, _⟩ := hne h; cases hp
    refine run ?_
    refine fin1 ?_
    exact ⟨by simp, .inl ⟨rfl, rfl, rfl⟩⟩
  refine run ?_
  refine z_bslice0 tb_ok (by rfl) (by rfl) (fun g => ?_)
  refine run ?_
  rcases Classical.em (xs = []) with rfl | hx
  · cases q with
    | none => cases hp
    | some q =>
    refine op1 (by rfl) (x_append0 tb_ok (by_ := 0) rfl rfl rfl (Nat.le_refl _)) ?_
    refine run ?_
    refine fin1 ?_
    exact ⟨by simp, .inr ⟨g, 0, #[], rfl, rfl, ⟨rfl, Nat.le_refl _, by decide, rfl, rfl⟩⟩⟩
  · obtain ⟨b, o, rfl, hr⟩ := hne hx
    refine z_appendAll tb_ok (by rfl) rfl ⟨rfl, Nat.le_refl _, by decide, rfl, rfl⟩ rfl rfl rfl rfl rfl rfl (.refl _) rfl hall hr (by simp) hl (fun v' ha' hA => ?_)
    refine run ?_
    refine fin1 ?_
    rw [List.append_nil]
    exact hA
theorem indexEn_e {w : World} (a : EnD) (xs : List EnD) (v : Value) (h : SlAt w v 14 (xs.map enV)) :
    Fn Try.prog 137 [v, .agg (enV a).toArray].toArray w [] (fun u _ => u = .int .i64 (idxI (fun t => decide (t = a)) xs)) := by
  obtain ⟨q, cap, rfl, hne, hle⟩ := h.opened
  refine enter Try.func137 ?_
  refine run ?_
  intro B
  refine run ?_
  refine loopS (σ := Nat) (fun k => [(8, .int .i64 (k : Int))]) (fun _ => [⟨B, (enV a).toArray, 50⟩]) (fun k => k ≤ xs.length ∧ ∀ j, j < k → decide (xs.getD j default = a) = false) (fun k => xs.length - k) 0 ⟨Nat.zero_le _, fun j hj => absurd hj (by omega)⟩ ?_
  rintro k m rfl ⟨hk, hno⟩
  refine run ?_
  refine st_cond _ rfl (fun hc => ?_) (fun hc => ?_)
  · have hlt : k < xs.length := by simpa using hc
    obtain ⟨b, o, rfl⟩ := hne (by intro e; subst e; simp at hlt)
    have hr := h.row hlt
    refine run ?_
    refine drawAll ?_
    refine runD ?_
    refine run ?_
    have hq : ∀ x : EnD, eqLeaves (enV a) (enV x) = decide (x = a) := fun x => by rw [eqEn, Bool.eq_iff_iff, decide_eq_true_eq, decide_eq_true_eq]; exact eq_comm
    try rw [hq]
    try rw [eqEn]
    refine st_cond _ rfl (fun hp => ?_) (fun hp => ?_)
    · refine run ?_
      refine fin1 ?_
      rw [idxI_at hlt hp hno]
    · refine run ?_
      refine nextS (k + 1) ⟨hlt, fun j hj => ?_⟩
      rcases Nat.lt_succ_iff_lt_or_eq.1 hj with hj | rfl
      · exact hno j hj
      · exact hp
  · have hge : k = xs.length := by simp at hc; omega
    subst hge
    refine run ?_
    refine fin1 ?_
    rw [idxI_none hno]
theorem containsEn_e {w : World} (a : EnD) (xs : List EnD) (v : Value) (h : SlAt w v 14 (xs.map enV)) :
    Fn Try.prog 94 [v, .agg (enV a).toArray].toArray w [] (fun u _ => u = .bool (xs.any fun t => decide (t = a))) := by
  refine enter Try.func94 ?_
  refine run ?_
  intro B
  refine run ?_
  refine callE (fun wc hG => indexEn_e a xs v (h.good hG)) ?_
  refine run ?_
  refine fin1 ?_
  rw [← idxI_ge]
end Go.Proofs.Ytcjbpdejlfomkaa
