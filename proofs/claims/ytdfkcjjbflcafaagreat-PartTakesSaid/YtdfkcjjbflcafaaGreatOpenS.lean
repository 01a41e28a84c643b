/- The engine: slices in an argument, opened element by element, whatever is said of an element. No program in sight. -/
import Derived.Test.YtdfkcjjbflcafaaGreatOpen
import Derived.SizedLaws
namespace Go.Proofs.YtdfkcjjbflcafaaGreat
open Go.ChangeShapes Go.WideShapes Go.ChangeAt Go.RowKit
set_option linter.unusedVariables false
set_option linter.unusedSimpArgs false
section
variable {H : Type} {enc : TypeId × Value → H} {P : Program} {w : World} {base : Nat} {spare : Nat → Bool} {held : Bool}
/-- What was read is within the reach. -/
def Szd (P : Program) (t : TypeId) (d : DataW H) : Prop := ∀ n ∈ d.weights P t, n ≤ reachBytes
theorem weightsAll_mem {P : Program} {e : TypeId} : ∀ {ds : List (DataW H)} {d : DataW H}, d ∈ ds → ∀ n ∈ d.weights P e, n ∈ DataW.weightsAll P e ds := by
  intro ds
  induction ds with
  | nil => intro d h; cases h
  | cons x r ih =>
    intro d h n hn
    simp only [DataW.weightsAll, List.mem_append]
    rcases List.mem_cons.1 h with rfl | h
    · exact .inl hn
    · exact .inr (ih h n hn)
/-- A slice: nil, or in a row, of each element what is said of it. -/
theorem open_each {α : Type} [Inhabited α] {t e s fuel : Nat} {R : List Value → α → Prop} {cs : List Value} {x : DataW H × List MemPlace} (ht : P.underlying t = some (.slice e)) (hs : szOf P e = some s) (hpos : 0 < s) (hby : Nat.ble 1 (P.bytesOf e) = true)
    (hE : ∀ n cs x, DataW.trod enc P w base spare held n e cs = some x → Szd P e x.1 → ∃ a : α, R cs a) (h : DataW.trod enc P w base spare held fuel t cs = some x) (hz : Szd P t x.1) :
    ∃ (p : Option Addr) (xs : List α) (cap : Nat), cs = [.slice p xs.length cap] ∧ xs.length ≤ reachBytes ∧ ((xs = []) ∨ ∃ b off, p = some ⟨b, off, none⟩ ∧ ∀ i, i < xs.length → ∃ cs, w.rangeAt b (off + i * s) cs ∧ cs.length = s ∧ R cs (xs.getD i default)) := by
  rcases Go.Deep.open_slice ht h with ⟨hc, _⟩ | ⟨a, len, cap, m, n, D, Pl, hc, hb, hl, hm, hmm, hxx, hx⟩
  · exact ⟨none, [], 0, hc, by simp, .inl rfl⟩
  · have hnm : len ≤ m := by rw [hmm]; split <;> omega
    rw [hxx] at hz
    have hlen : len ≤ reachBytes := by
      have h1 := hz ((((List.range len).map D).length + ((List.range (m - len)).map fun j => D (len + j)).length) * P.bytesOf e) (by simp [DataW.weights, ht])
      have h2 : 1 ≤ P.bytesOf e := Nat.le_of_ble_eq_true hby
      simp only [List.length_map, List.length_range] at h1
      calc len ≤ len + (m - len) := by omega
        _ = (len + (m - len)) * 1 := by omega
        _ ≤ (len + (m - len)) * P.bytesOf e := Nat.mul_le_mul_left _ h2
        _ ≤ _ := h1
    have hzE : ∀ i, i < len → Szd P e (D i) := fun i hi n hn => hz n (by
      simp only [DataW.weights, ht, List.mem_cons, List.mem_append]
      exact .inr (.inl (weightsAll_mem (List.mem_map.2 ⟨i, List.mem_range.2 hi, rfl⟩) n hn)))
    rw [cellsOf_sz hs] at hx
    have key : ∀ i, i < len → ∃ y : α, ∃ cs, (∀ j v, cs[j]? = some v → w.cell? ((a.add (i * s)).add j) = some v) ∧ cs.length = s ∧ R cs y := by
      intro i hi
      obtain ⟨cs, h1, h2⟩ := hx i (by omega)
      obtain ⟨_, hlen, hc⟩ := World.cells?_some h1
      obtain ⟨y, hy⟩ := hE _ _ _ h2 (hzE i hi)
      refine ⟨y, cs, fun j v hj => ?_, hlen, hy⟩
      have : j < cs.length := (List.getElem?_eq_some_iff.1 hj).1
      rw [hc j (by omega), hj]
    obtain ⟨Y, hY⟩ := Go.Deep.choose_lt (α := α) (n := len) (p := fun i y => ∃ cs, (∀ j v, cs[j]? = some v → w.cell? ((a.add (i * s)).add j) = some v) ∧ cs.length = s ∧ R cs y) key
    refine ⟨some a, (List.range len).map Y, cap, by simpa using hc, by simpa using hlen, ?_⟩
    by_cases h0 : len = 0
    · left; subst h0; rfl
    right
    have hspot : a.spot = none := by
      obtain ⟨cs, h1, h3, _⟩ := hY 0 (by omega)
      have := World.cell?_spot (h1 0 (cs[0]'(by omega)) (List.getElem?_eq_getElem _))
      simpa [Addr.add] using this
    obtain ⟨b, off, sp⟩ := a
    simp only at hspot
    subst hspot
    refine ⟨b, off, rfl, fun i hi => ?_⟩
    simp only [List.length_map, List.length_range] at hi
    obtain ⟨cs, h1, h2, h3⟩ := hY i hi
    refine ⟨cs, fun j v hj => ?_, h2, by simpa [hi] using h3⟩
    have := h1 j v hj
    rwa [Go.Deep.add_add, Addr.add_mid, ← Nat.add_assoc] at this
/-- The fields of a struct. -/
theorem trod_fields {t fuel : Nat} {fs : Array Go.Field} {cs : List Value} {x : DataW H × List MemPlace} (ht : P.underlying t = some (.struct fs)) (h : DataW.trod enc P w base spare held fuel t cs = some x) (hz : Szd P t x.1) :
    cs.length = P.cellsOf t ∧ ∃ n : Nat, ∀ (i : Nat) (f : Go.Field), fs[i]? = some f → ∃ y, DataW.trod enc P w base spare held n f.type ((cs.drop f.offset).take (P.cellsOf f.type)) = some y ∧ Szd P f.type y.1 := by
  obtain ⟨xs, n, _, rfl, hl, hlen, hf⟩ := DataW.trod_struct ht h
  refine ⟨hl, n, fun i f hi => ?_⟩
  have h1 := hf i f hi
  have hlt : i < fs.size := (Array.getElem?_eq_some_iff.1 hi).1
  rw [List.getElem?_eq_getElem (by omega)] at h1
  refine ⟨_, h1, fun n hn => hz n ?_⟩
  simp only [DataW.weights, ht]
  exact DataW.weights_mem_each (j := i) (t := f.type) (d := (xs[i]'(by omega)).1) (by simp [hi]) (by simp [List.getElem?_eq_getElem (show i < xs.length by omega)]) n hn
end
end Go.Proofs.YtdfkcjjbflcafaaGreat
