/- Answers there are; late ways out. -/
import Derived.Test.YtiaelhhmlbfkmaaGreatPgC
import Derived.Test.YtiaelhhmlbfkmaaGreatEngR
namespace Go.Proofs.YtiaelhhmlbfkmaaGreat
open Go.RowKit
set_option linter.unusedVariables false
set_option linter.unusedSimpArgs false
set_option maxRecDepth 20000
theorem dAssign {n : Nat} {w0 : World} {mu : List Nat} {l : Fm} {hp : Hp} {all : Array Oper} {iv : Fm} {i d : Nat} {ds : List (Nat × Nat)} {D : List Nat} {Y : Fm → Prop} {ty : TypeId} {pos : String} {af : Array Edge} {x : Operand} {v : Value} (h : DE3 Tryz.prog n w0 mu all ds l hp Y D ((i, v) :: iv)) (ho : all[i]? = some ⟨some d, .assign x, ty, pos, af, none⟩ := by rfl) (hx : ev (depFm ds iv af.toList ++ l) x = some v := by rfl) : DE3 Tryz.prog n w0 mu all ds l hp Y (i :: D) iv := de3_d ho (r_assign hx) h
theorem own_ex {e : Nat} (xs : List (List Value)) (hx : ∀ c ∈ xs, c.length = 1 ∧ c.all (·.oneCell') = true) (hl : xs.length < 65536) : ∃ v h, Own e 1 v h xs := by
  by_cases h0 : xs = []
  · subst h0; exact ⟨_, _, Own.nil e 1⟩
  · have hfl : ∀ ys : List (List Value), (∀ c ∈ ys, c.length = 1 ∧ c.all (·.oneCell') = true) → ys.flatten.length = ys.length := by
      intro ys
      induction ys with
      | nil => intro _; rfl
      | cons y r ih => intro h; rw [List.flatten_cons, List.length_append, ih (fun c hc => h c (List.mem_cons_of_mem _ hc)), (h y (List.mem_cons_self ..)).1, List.length_cons]; omega
    refine ⟨.slice (some ⟨0, 0, none⟩) xs.length xs.length, [⟨0, xs.flatten.toArray, e⟩], hx, .inr ⟨0, xs.length, _, rfl, rfl, ⟨by rw [hfl xs hx]; omega, Nat.le_refl _, by unfold maxLen; omega, by simp only [List.size_toArray]; rw [hfl xs hx]; omega, ?_⟩⟩⟩
    rw [List.take_of_length_le (by simp only; rw [hfl xs hx]; omega)]
theorem mapR_ex (r : TbR) (h1 : r.ws.length < 65536) (h2 : r.left.length < 65536) : ∃ u hn, MapR r u hn := by
  obtain ⟨v, h, hO⟩ := own_ex (e := 47) (r.ws.map uV) (fun c hc => by obtain ⟨x, _, rfl⟩ := List.mem_map.1 hc; exact ⟨rfl, rfl⟩) (by simpa using h1)
  obtain ⟨v2, h3, hO2⟩ := own_ex (e := 3) (r.left.map inV) (fun c hc => by obtain ⟨x, _, rfl⟩ := List.mem_map.1 hc; exact ⟨rfl, rfl⟩) (by simpa using h2)
  exact ⟨_, _, v, h, v2, h3, rfl, hO, hO2, HpLe.refl _⟩
end Go.Proofs.YtiaelhhmlbfkmaaGreat
