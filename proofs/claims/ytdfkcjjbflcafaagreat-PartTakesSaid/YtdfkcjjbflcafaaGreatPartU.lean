/- Library: slices.Clone. -/
import Derived.Test.YtdfkcjjbflcafaaGreatEngW
namespace Go.Proofs.YtdfkcjjbflcafaaGreat
open Go.RowKit
set_option linter.unusedVariables false
set_option linter.unusedSimpArgs false
set_option maxRecDepth 20000
attribute [local irreducible] Hy St Ops DH DHF
theorem cloneInts_e {w : World} (v : Value) (xs : List (List Value)) (h : SlAt w v 1 xs) (hall : ∀ c ∈ xs, c.length = 1 ∧ c.all (·.oneCell') = true) (hl : xs.length < 1000000) : Fn Tryz.prog 44 [v].toArray w [] (fun u hn => Own 3 1 u hn xs) := by
  obtain ⟨⟨q, cap, rfl, hne⟩, _⟩ := h
  refine enter Tryz.func44 ?_
  refine run ?_
  refine op1 (by rfl) (x_nilS tb_ok rfl rfl) ?_
  refine run ?_
  refine st_cond _ rfl (fun hp => ?_) (fun hp => ?_)
  · obtain rfl : xs = [] := by
      rcases Classical.em (xs = []) with h | h
      · exact h
      · obtain ⟨b, o, rfl, _⟩ := hne h; cases hp
    refine run ?_
    refine fin1 ?_
    exact ⟨by simp, .inl ⟨rfl, rfl, rfl⟩⟩
  refine run ?_
  refine z_bslice0 tb_ok (by rfl) (by rfl) (fun g => ?_)
  refine run ?_
  rcases Classical.em (xs = []) with rfl | hx
  · cases q with
    | none => cases hp
    | some q =>
    refine op1 (by rfl) (x_append0 tb_ok (by_ := 0) rfl rfl rfl (Nat.le_refl _)) ?_
    refine run ?_
    refine fin1 ?_
    exact ⟨by simp, .inr ⟨g, 0, #[], rfl, rfl, ⟨rfl, Nat.le_refl _, by decide, rfl, rfl⟩⟩⟩
  · obtain ⟨b, o, rfl, hr⟩ := hne hx
    refine z_appendAll tb_ok (by rfl) rfl ⟨rfl, Nat.le_refl _, by decide, rfl, rfl⟩ rfl rfl rfl rfl rfl rfl (.refl _) rfl hall hr (by simp) hl (fun v' ha' hA => ?_)
    refine run ?_
    refine fin1 ?_
    rw [List.append_nil]
    exact hA
theorem clonePages_e {w : World} (v : Value) (xs : List (List Value)) (h : SlAt w v 2 xs) (hall : ∀ c ∈ xs, c.length = 2 ∧ c.all (·.oneCell') = true) (hl : xs.length < 1000000) : Fn Tryz.prog 41 [v].toArray w [] (fun u hn => Own 56 2 u hn xs) := by
  obtain ⟨⟨q, cap, rfl, hne⟩, _⟩ := h
  refine enter Tryz.func41 ?_
  refine run ?_
  refine op1 (by rfl) (x_nilS tb_ok rfl rfl) ?_
  refine run ?_
  refine st_cond _ rfl (fun hp => ?_) (fun hp => ?_)
  · obtain rfl : xs = [] := by
      rcases Classical.em (xs = []) with h | h
      · exact h
      · obtain ⟨b, o, rfl, _⟩ := hne h; cases hp
    refine run ?_
    refine fin1 ?_
    exact ⟨by simp, .inl ⟨rfl, rfl, rfl⟩⟩
  refine run ?_
  refine z_bslice0 tb_ok (by rfl) (by rfl) (fun g => ?_)
  refine run ?_
  rcases Classical.em (xs = []) with rfl | hx
  · cases q with
    | none => cases hp
    | some q =>
    refine op1 (by rfl) (x_append0 tb_ok (by_ := 0) rfl rfl rfl (Nat.le_refl _)) ?_
    refine run ?_
    refine fin1 ?_
    exact ⟨by simp, .inr ⟨g, 0, #[], rfl, rfl, ⟨rfl, Nat.le_refl _, by decide, rfl, rfl⟩⟩⟩
  · obtain ⟨b, o, rfl, hr⟩ := hne hx
    refine z_appendAll tb_ok (by rfl) rfl ⟨rfl, Nat.le_refl _, by decide, rfl, rfl⟩ rfl rfl rfl rfl rfl rfl (.refl _) rfl hall hr (by simp) hl (fun v' ha' hA => ?_)
    refine run ?_
    refine fin1 ?_
    rw [List.append_nil]
    exact hA
theorem cloneSeats_e {w : World} (v : Value) (xs : List (List Value)) (h : SlAt w v 2 xs) (hall : ∀ c ∈ xs, c.length = 2 ∧ c.all (·.oneCell') = true) (hl : xs.length < 1000000) : Fn Tryz.prog 43 [v].toArray w [] (fun u hn => Own 52 2 u hn xs) := by
  obtain ⟨⟨q, cap, rfl, hne⟩, _⟩ := h
  refine enter Tryz.func43 ?_
  refine run ?_
  refine op1 (by rfl) (x_nilS tb_ok rfl rfl) ?_
  refine run ?_
  refine st_cond _ rfl (fun hp => ?_) (fun hp => ?_)
  · obtain rfl : xs = [] := by
      rcases Classical.em (xs = []) with h | h
      · exact h
      · obtain ⟨b, o, rfl, _⟩ := hne h; cases hp
    refine run ?_
    refine fin1 ?_
    exact ⟨by simp, .inl ⟨rfl, rfl, rfl⟩⟩
  refine run ?_
  refine z_bslice0 tb_ok (by rfl) (by rfl) (fun g => ?_)
  refine run ?_
  rcases Classical.em (xs = []) with rfl | hx
  · cases q with
    | none => cases hp
    | some q =>
    refine op1 (by rfl) (x_append0 tb_ok (by_ := 0) rfl rfl rfl (Nat.le_refl _)) ?_
    refine run ?_
    refine fin1 ?_
    exact ⟨by simp, .inr ⟨g, 0, #[], rfl, rfl, ⟨rfl, Nat.le_refl _, by decide, rfl, rfl⟩⟩⟩
  · obtain ⟨b, o, rfl, hr⟩ := hne hx
    refine z_appendAll tb_ok (by rfl) rfl ⟨rfl, Nat.le_refl _, by decide, rfl, rfl⟩ rfl rfl rfl rfl rfl rfl (.refl _) rfl hall hr (by simp) hl (fun v' ha' hA => ?_)
    refine run ?_
    refine fin1 ?_
    rw [List.append_nil]
    exact hA
theorem cloneMaps_e {w : World} (v : Value) (xs : List (List Value)) (h : SlAt w v 2 xs) (hall : ∀ c ∈ xs, c.length = 2 ∧ c.all (·.oneCell') = true) (hl : xs.length < 1000000) : Fn Tryz.prog 45 [v].toArray w [] (fun u hn => Own 80 2 u hn xs) := by
  obtain ⟨⟨q, cap, rfl, hne⟩, _⟩ := h
  refine enter Tryz.func45 ?_
  refine run ?_
  refine op1 (by rfl) (x_nilS tb_ok rfl rfl) ?_
  refine run ?_
  refine st_cond _ rfl (fun hp => ?_) (fun hp => ?_)
  · obtain rfl : xs = [] := by
      rcases Classical.em (xs = []) with h | h
      · exact h
      · obtain ⟨b, o, rfl, _⟩ := hne h; cases hp
    refine run ?_
    refine fin1 ?_
    exact ⟨by simp, .inl ⟨rfl, rfl, rfl⟩⟩
  refine run ?_
  refine z_bslice0 tb_ok (by rfl) (by rfl) (fun g => ?_)
  refine run ?_
  rcases Classical.em (xs = []) with rfl | hx
  · cases q with
    | none => cases hp
    | some q =>
    refine op1 (by rfl) (x_append0 tb_ok (by_ := 0) rfl rfl rfl (Nat.le_refl _)) ?_
    refine run ?_
    refine fin1 ?_
    exact ⟨by simp, .inr ⟨g, 0, #[], rfl, rfl, ⟨rfl, Nat.le_refl _, by decide, rfl, rfl⟩⟩⟩
  · obtain ⟨b, o, rfl, hr⟩ := hne hx
    refine z_appendAll tb_ok (by rfl) rfl ⟨rfl, Nat.le_refl _, by decide, rfl, rfl⟩ rfl rfl rfl rfl rfl rfl (.refl _) rfl hall hr (by simp) hl (fun v' ha' hA => ?_)
    refine run ?_
    refine fin1 ?_
    rw [List.append_nil]
    exact hA
theorem cloneGuests_e {w : World} (v : Value) (xs : List (List Value)) (h : SlAt w v 5 xs) (hall : ∀ c ∈ xs, c.length = 5 ∧ c.all (·.oneCell') = true) (hl : xs.length < 1000000) : Fn Tryz.prog 42 [v].toArray w [] (fun u hn => Own 63 5 u hn xs) := by
  obtain ⟨⟨q, cap, rfl, hne⟩, _⟩ := h
  refine enter Tryz.func42 ?_
  refine run ?_
  refine op1 (by rfl) (x_nilS tb_ok rfl rfl) ?_
  refine run ?_
  refine st_cond _ rfl (fun hp => ?_) (fun hp => ?_)
  · obtain rfl : xs = [] := by
      rcases Classical.em (xs = []) with h | h
      · exact h
      · obtain ⟨b, o, rfl, _⟩ := hne h; cases hp
    refine run ?_
    refine fin1 ?_
    exact ⟨by simp, .inl ⟨rfl, rfl, rfl⟩⟩
  refine run ?_
  refine z_bslice0 tb_ok (by rfl) (by rfl) (fun g => ?_)
  refine run ?_
  rcases Classical.em (xs = []) with rfl | hx
  · cases q with
    | none => cases hp
    | some q =>
    refine op1 (by rfl) (x_append0 tb_ok (by_ := 0) rfl rfl rfl (Nat.le_refl _)) ?_
    refine run ?_
    refine fin1 ?_
    exact ⟨by simp, .inr ⟨g, 0, #[], rfl, rfl, ⟨rfl, Nat.le_refl _, by decide, rfl, rfl⟩⟩⟩
  · obtain ⟨b, o, rfl, hr⟩ := hne hx
    refine z_appendAll tb_ok (by rfl) rfl ⟨rfl, Nat.le_refl _, by decide, rfl, rfl⟩ rfl rfl rfl rfl rfl rfl (.refl _) rfl hall hr (by simp) hl (fun v' ha' hA => ?_)
    refine run ?_
    refine fin1 ?_
    rw [List.append_nil]
    exact hA
end Go.Proofs.YtdfkcjjbflcafaaGreat
