/- The engine: an argument of numbers and bools, opened. No program in sight. -/
import Derived.Test.YtdfkcjjbflcafaaGreatEngS
import Derived.Deep.Slices
import Derived.ProofKit
import Derived.OpenShut
namespace Go.Proofs.YtdfkcjjbflcafaaGreat
open Go.ChangeShapes Go.WideShapes Go.ChangeAt Go.RowKit
set_option linter.unusedVariables false
set_option linter.unusedSimpArgs false
def okW : Leaf → Value → Bool
  | .i k, .int k' n => decide (k = k') && (Lit.int k n).wf
  | .b, .bool _ => true
  | _, _ => false
def okLvW : List Leaf → List Value → Bool
  | [], [] => true
  | l :: ls, v :: vs => okW l v && okLvW ls vs
  | _, _ => false
theorem okLvW_app : ∀ {ks rs : List Leaf} {vs : List Value}, ks.length ≤ vs.length → okLvW ks (vs.take ks.length) = true → okLvW rs (vs.drop ks.length) = true → okLvW (ks ++ rs) vs = true := by
  intro ks
  induction ks with
  | nil => intro rs vs _ _ h; simpa using h
  | cons k r ih =>
    intro rs vs hl h1 h2
    cases vs with
    | nil => simp at hl
    | cons v vs =>
      simp only [List.length_cons, List.take_succ_cons, List.drop_succ_cons, okLvW, Bool.and_eq_true] at h1 h2
      simp only [List.cons_append, okLvW, Bool.and_eq_true]
      exact ⟨h1.1, ih (by simp at hl; omega) h1.2 h2⟩
section
variable {H : Type} {enc : TypeId × Value → H} {P : Program} {w : World} {base : Nat} {spare : Nat → Bool} {held : Bool}
theorem cellsOf_sz {t : TypeId} {n : Nat} (h : szOf P t = some n) : P.cellsOf t = n := by
  unfold szOf at h; unfold Program.cellsOf; rw [h]; rfl
theorem fields_leaves {F : TypeId → Option (List Leaf)} {n : Nat} (hF : ∀ u ks, F u = some ks → szOf P u = some ks.length ∧ ∀ cs x, DataW.trod enc P w base spare held n u cs = some x → okLvW ks cs = true) (cs : List Value) :
    ∀ (fs : List Field) (off : Nat) (ks : List Leaf), lfFields F off fs = some ks → cs.length = off + ks.length →
      (∀ f ∈ fs, ∃ x, DataW.trod enc P w base spare held n f.type ((cs.drop f.offset).take (P.cellsOf f.type)) = some x) → okLvW ks (cs.drop off) = true := by
  intro fs
  induction fs with
  | nil =>
    intro off ks h hl hx
    simp only [lfFields, Option.some.injEq] at h
    subst h
    rw [List.drop_eq_nil_of_le (by simp only [List.length_nil] at hl; omega)]
    rfl
  | cons f r ih =>
    intro off ks h hl hx
    simp only [lfFields] at h
    split at h
    · rename_i hc
      obtain ⟨hname, hoff⟩ := hc
      cases hf : F f.type with
      | none => simp [hf] at h
      | some k1 =>
        rw [hf] at h
        simp only [Option.bind_some] at h
        cases hr : lfFields F (off + k1.length) r with
        | none => simp [hr] at h
        | some k2 =>
          rw [hr] at h
          simp only [Option.map_some, Option.some.injEq] at h
          subst h
          obtain ⟨hs, hE⟩ := hF _ _ hf
          obtain ⟨x, hx1⟩ := hx f (List.mem_cons_self ..)
          rw [hoff, cellsOf_sz hs] at hx1
          simp only [List.length_append] at hl
          refine okLvW_app (by simp; omega) (hE _ _ hx1) ?_
          rw [List.drop_drop]
          exact ih _ _ hr (by omega) fun f hf => hx f (List.mem_cons_of_mem _ hf)
    · cases h
theorem times_leaves {ks : List Leaf} {q : List Value → Prop} (hE : ∀ cs, q cs → okLvW ks cs = true) (cs : List Value) : ∀ (n m : Nat), cs.length = (m + n) * ks.length → (∀ i, m ≤ i → i < m + n → q ((cs.drop (i * ks.length)).take ks.length)) → okLvW (lfTimes ks n) (cs.drop (m * ks.length)) = true := by
  intro n
  induction n with
  | zero => intro m hl _; rw [List.drop_eq_nil_of_le (by rw [hl]; simp)]; rfl
  | succ n ih =>
    intro m hl hq
    have e : (m + (n + 1)) * ks.length = m * ks.length + (ks.length + n * ks.length) := by rw [Nat.add_mul, Nat.succ_mul]; omega
    refine okLvW_app (by simp; omega) (hE _ (hq m (Nat.le_refl _) (by omega))) ?_
    rw [List.drop_drop, ← Nat.succ_mul]
    exact ih (m + 1) (by rw [hl]; congr 1; omega) fun i h1 h2 => hq i (by omega) (by omega)
theorem trod_leaves : ∀ (d : Nat) (t : TypeId) (ks : List Leaf), lfOf P d t = some ks → szOf P t = some ks.length → ∀ fuel cs x, DataW.trod enc P w base spare held fuel t cs = some x → okLvW ks cs = true := by
  intro d
  induction d with
  | zero => intro t ks h; cases h
  | succ d ih =>
    intro t ks h hsz fuel cs x hx
    simp only [lfOf] at h
    split at h
    · rename_i k hu
      simp only [Option.some.injEq] at h
      subst h
      obtain ⟨n, rfl, _, hw⟩ := DataW.trod_int hu hx
      simp [okLvW, okW, hw]
    · rename_i hu
      simp only [Option.some.injEq] at h
      subst h
      obtain ⟨n, rfl, _⟩ := DataW.trod_bool hu hx
      simp [okLvW, okW]
    · rename_i fs hu
      split at h
      · obtain ⟨xs, n, _, _, hl, hn, hf⟩ := DataW.trod_struct hu hx
        have := fields_leaves (enc := enc) (P := P) (w := w) (base := base) (spare := spare) (held := held) (n := n) (F := fun u => (lfOf P d u).bind fun ks => if szOf P u = some ks.length ∧ 0 < ks.length then some ks else none) (fun u ks' hF => by
          cases hl : lfOf P d u with
          | none => rw [hl] at hF; cases hF
          | some k1 =>
            rw [hl] at hF
            simp only [Option.bind_some] at hF
            split at hF
            · rename_i hz
              simp only [Option.some.injEq] at hF
              subst hF
              exact ⟨hz.1, fun cs x => ih u k1 hl hz.1 n cs x⟩
            · cases hF) cs fs.toList 0 ks h (by rw [hl, cellsOf_sz hsz]; omega) (fun f hm => by
              obtain ⟨i, hi, rfl⟩ := List.mem_iff_getElem.1 hm
              simp only [Array.length_toList] at hi
              have := hf i fs[i] (by simp [hi])
              rw [Array.getElem_toList, this]
              exact ⟨xs[i], by rw [List.getElem?_eq_getElem (by omega)]⟩)
        simpa using this
      · cases h
    · rename_i n e hu
      cases hl : lfOf P d e with
      | none => rw [hl] at h; cases h
      | some k1 =>
        rw [hl] at h
        simp only [Option.bind_some] at h
        split at h
        · rename_i hz
          simp only [Option.some.injEq] at h
          subst h
          obtain ⟨xs, m, _, _, hlen, hn, hf⟩ := DataW.trod_array hu hx
          have hk : ∀ (n : Nat), (lfTimes k1 n).length = n * k1.length := by
            intro n
            induction n with
            | zero => simp [lfTimes]
            | succ n ih => simp [lfTimes, ih, Nat.succ_mul]; omega
          have := times_leaves (ks := k1) (q := fun cs => ∃ x, DataW.trod enc P w base spare held m e cs = some x) (fun cs ⟨x, h⟩ => ih e k1 hl hz.1 m cs x h) cs n 0 (by rw [hlen, cellsOf_sz hsz, hk]; simp) (fun i _ hi => by
            have := hf i (by omega)
            rw [cellsOf_sz hz.1] at this
            rw [this]
            exact ⟨xs[i]'(by omega), by rw [List.getElem?_eq_getElem (by omega)]⟩)
          simpa using this
        · cases h
    · cases h
/-- A slice of such things: nil, or each element's cells. -/
theorem open_rows {t e : TypeId} {ks : List Leaf} {d fuel : Nat} {v : Value} {x : DataW H × List MemPlace} (ht : P.underlying t = some (.slice e)) (hk : lfOf P d e = some ks) (hsz : szOf P e = some ks.length) (hpos : 0 < ks.length)
    (h : DataW.trod enc P w base spare held fuel t v.cells.toList = some x) (hv : ∃ a n c, v = .slice a n c) :
    ∃ p len cap, v = .slice p len cap ∧ len ≤ maxLen ∧ ((len = 0) ∨ ∃ b off, p = some ⟨b, off, none⟩ ∧ ∀ i, i < len → ∃ cs, w.rangeAt b (off + i * ks.length) cs ∧ okLvW ks cs = true ∧ cs.length = ks.length) := by
  obtain ⟨a0, n0, c0, rfl⟩ := hv
  simp only [Value.cells] at h
  rcases Go.Deep.open_slice ht h with ⟨hc, _⟩ | ⟨a, len, cap, m, n, D, Pl, hc, hb, hl, hm, hmm, _, hx⟩
  · simp at hc
    obtain ⟨rfl, rfl, rfl⟩ := hc
    exact ⟨_, _, _, rfl, by simp [maxLen], .inl rfl⟩
  · simp at hc
    obtain ⟨rfl, rfl, rfl⟩ := hc
    refine ⟨_, _, _, rfl, by omega, ?_⟩
    by_cases h0 : n0 = 0
    · exact .inl h0
    right
    have hnm : n0 ≤ m := by rw [hmm]; split <;> omega
    rw [cellsOf_sz hsz] at hx
    have key : ∀ i, i < n0 → ∃ cs, (∀ j v, cs[j]? = some v → w.cell? ((a.add (i * ks.length)).add j) = some v) ∧ okLvW ks cs = true ∧ cs.length = ks.length := by
      intro i hi
      obtain ⟨cs, h1, h2⟩ := hx i (by omega)
      obtain ⟨_, hlen, hc⟩ := World.cells?_some h1
      refine ⟨cs, fun j v hj => ?_, trod_leaves d e ks hk hsz _ _ _ h2, hlen⟩
      have : j < cs.length := by
        rcases Nat.lt_or_ge j cs.length with h | h
        · exact h
        · rw [List.getElem?_eq_none h] at hj; cases hj
      rw [hc j (by omega), hj]
    have hspot : a.spot = none := by
      obtain ⟨cs, h1, _, h3⟩ := key 0 (by omega)
      have := World.cell?_spot (h1 0 (cs[0]'(by omega)) (List.getElem?_eq_getElem _))
      simpa [Addr.add] using this
    obtain ⟨b, off, sp⟩ := a
    simp only at hspot
    subst hspot
    refine ⟨b, off, rfl, fun i hi => ?_⟩
    obtain ⟨cs, h1, h2, h3⟩ := key i hi
    refine ⟨cs, fun j v hj => ?_, h2, h3⟩
    have := h1 j v hj
    rwa [Go.Deep.add_add, Addr.add_mid, ← Nat.add_assoc] at this
end
end Go.Proofs.YtdfkcjjbflcafaaGreat
