/- Layer 18 (part): the reference's put and del. -/
import Derived.Test.YtjnndchkblnkgaaPtL
namespace Go.Proofs.Ytjnndchkblnkgaa
open Go.RowKit
set_option linter.unusedVariables false
set_option linter.unusedSimpArgs false
set_option maxRecDepth 20000
attribute [local irreducible] Hy St Ops DH DHF
section
variable {P : Program} {T : Tab} {n : Nat} {w0 : World} {mu : List Nat} {l : Fm} {hp : Hp} {dd : Option Tmp} {ty : TypeId} {pos : String} {af : Array Edge} {gg : Option (Nat × Bool)}
/-- A slice's beginning, wherever it lies. -/
theorem x_sliceHV (ok : TabOk P T) {t e sz m cap : Nat} {p : Option Addr} {kh : IntKind} {x hi : Operand} {j : Int} (hx : ev l x = some (.slice p m cap)) (hhi : ev l hi = some (.int kh j)) (ht : lk T.sl t = some (e, sz))
    (h0 : 0 ≤ j) (h2 : j ≤ cap) : Hy P n w0 mu l hp ⟨dd, .slice t x none (some hi) none, ty, pos, af, gg⟩ (sliced p 0 j.toNat cap sz) := by
  obtain ⟨hu, hsz⟩ := ok.gsl ht
  refine hy_run fun a w hk _ => ?_
  have he : P.elem t = e := by simp [Program.elem, hu]
  have hs := run_sizeOf hsz w
  simp only [execOp, Option.map_some, Option.map_none, hk.ev hx, hk.ev hhi]
  simp only [Sem.run_bind]
  rw [run_sliceAt_slice (w := w) t _ _ _ _ (elem_of hu), run_slice_h (w := w) t _ m cap (elem_of hu) kh j h0 h2, he, hs]
  simp
end
section
variable {n : Nat} {w0 : World} {mu : List Nat} {l : Fm} {hp : Hp} {Q : Exit → Fm → Hp → Prop} {all : Array Oper} {rest : List Oper} {ty : TypeId} {pos : String} {af : Array Edge} {ds : List (Nat × Nat)} {tail : List Oper} {i : Nat} {iv fr : Fm}
/-- A guarded operation that is not reached. -/
theorem absDG {op : Op} {d j dj : Nat} {want b : Bool} (hf : wnt b want = false) (h : DHF Try.prog n w0 mu all ds tail l hp Q (i + 1) rest ((i, gv (wnt b want) undef) :: iv) ((d, gv (wnt b want) undef) :: fr)) (hj : (all[j]?).bind (·.dst) = some dj := by rfl) (hb : look (depFm ds iv af.toList ++ l) dj = some (.bool b) := by rfl) (hdj : Nat.blt dj n = true := by rfl) (hlk : lk ds i = some d := by rfl) : DHF Try.prog n w0 mu all ds tail l hp Q i (⟨some d, op, ty, pos, af, some (j, want)⟩ :: rest) iv fr :=
  dhf1g hlk hj hb hdj (fun hg => hyAbs hg hf) h
end
theorem SlAt.row2 {w : World} {b o cap sz n : Nat} {xs : List (List Value)} (h : SlAt w (.slice (some ⟨b, o, none⟩) n cap) sz xs) {i : Nat} {c : List Value} (hi : xs[i]? = some c) : w.rangeAt b (o + i * sz) c := by
  obtain ⟨⟨p, cp, e, hr⟩, _⟩ := h
  cases e
  obtain ⟨b', o', e', hx⟩ := hr (by intro e; subst e; cases hi)
  cases e'
  exact hx i c hi
theorem acc_some {e sz : Nat} {xs : List (List Value)} (hall : ∀ c ∈ xs, c.length = sz ∧ c.all (·.oneCell') = true) (hle : xs.length ≤ 1000000) : ∃ v hn, Acc e sz v hn xs := by
  rcases Classical.em (xs = []) with rfl | hx
  · exact ⟨_, _, Acc.nil _ _⟩
  · have hl := flatten_len xs (fun c hc => (hall c hc).1)
    exact ⟨_, _, hall, .inr ⟨hx, 0, xs.length, xs.flatten.toArray, rfl, rfl, ⟨hl, Nat.le_refl _, by unfold maxLen; omega, by rw [List.size_toArray]; exact hl, by rw [← hl, List.take_length]⟩⟩⟩
theorem sl_take {w : World} {q : Option Addr} {cap : Nat} {xs : List MpD} (h : SlAt w (.slice q xs.length cap) 2 (xs.map mpV)) (k : Nat) (hk : k ≤ xs.length) : SlAt w (sliced q 0 ((k : Int)).toNat cap 2) 2 ((xs.take k).map mpV) := by
  obtain ⟨⟨p, c, e, hr⟩, hle⟩ := h
  rw [List.length_map] at e
  cases e
  have hlen : ((xs.take k).map mpV).length = k := by rw [List.length_map, List.length_take]; omega
  have hmx : xs.length ≤ 281474976710656 := by simpa using hle
  refine ⟨?_, by rw [hlen]; omega⟩
  rcases Nat.eq_zero_or_pos k with rfl | hp
  · exact ⟨_, _, by rw [hlen]; rfl, fun hne => absurd (by simp) hne⟩
  · obtain ⟨b, off, rfl, hx⟩ := hr (by intro e; rw [List.map_eq_nil_iff] at e; subst e; simp at hk; omega)
    refine ⟨some ⟨b, off, none⟩, cap, ?_, fun _ => ⟨b, off, rfl, fun i c hc => ?_⟩⟩
    · rw [hlen]
      simp [sliced, slice_add]
    · refine hx i c ?_
      rw [List.getElem?_map] at hc ⊢
      rw [List.getElem?_take] at hc
      split at hc
      · exact hc
      · cases hc
end Go.Proofs.Ytjnndchkblnkgaa
