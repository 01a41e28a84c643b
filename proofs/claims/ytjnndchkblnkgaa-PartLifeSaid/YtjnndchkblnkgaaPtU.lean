/- Layer 18 (part): what was told is spoilt; the host brought back to a processor. -/
import Derived.Test.YtjnndchkblnkgaaPtT
namespace Go.Proofs.Ytjnndchkblnkgaa
open Go.RowKit
set_option linter.unusedVariables false
set_option linter.unusedSimpArgs false
set_option maxRecDepth 20000
attribute [local irreducible] Hy St Ops DH DHF
theorem Own.setRow {e : Nat} {v : Value} {h : Hp} {xs : List MpD} (hA : Own e 2 v h (xs.map mpV)) {k : Nat} (hk : k < xs.length) : ∃ g cap cur, v = .slice (some ⟨g, 0, none⟩) xs.length cap ∧ h = [⟨g, cur, e⟩] ∧ k * 2 + 2 ≤ cur.size ∧
    ∀ z : MpD, Own e 2 v [⟨g, putAt cur (k * 2) (mpV z), e⟩] ((xs.set k z).map mpV) := by
  obtain ⟨g, cap, cur, rfl, rfl, hr⟩ := hA.row (n := xs.length) (by simp) (by omega)
  have hall : ∀ c ∈ xs.map mpV, c.length = 2 := fun c hc => (mp_all c hc).1
  have hi : (xs.map mpV)[k]? = some (mpV (xs.getD k default)) := by
    rw [List.getElem?_map, List.getD_eq_getElem?_getD, List.getElem?_eq_getElem hk]; rfl
  have hsz := hr.size
  have hle := hr.le
  refine ⟨g, cap, cur, rfl, rfl, by omega, fun z => ⟨mp_all, .inr ⟨g, cap, _, by simp, rfl, ?_⟩⟩⟩
  have h2 := hr.put hall hi (k := 0) (vs := mpV z) (by simp [mpV])
  have e2 : ((xs.set k z).map mpV).length = xs.length := by simp
  rw [e2, List.map_set]
  exact h2
theorem nth_putAt : ∀ (vs : List Value) (cs : Array Value) (o : Nat) {i : Nat}, (i < o ∨ o + vs.length ≤ i) → nth (putAt cs o vs).toList i = nth cs.toList i := by
  intro vs
  induction vs with
  | nil => intro cs o i _; rfl
  | cons v r ih =>
    intro cs o i h
    simp only [List.length_cons] at h
    rw [putAt, ih _ _ (by omega), nth_eq, nth_eq, Array.toList_setIfInBounds, List.getElem?_toArray, List.getElem?_toArray, List.getElem?_set_ne (show o ≠ i by omega)]
def ghsD (G : Nat → GB) : Nat → Hp
  | 0 => []
  | m + 1 => (G (4 - (m + 1))).hv ++ ((G (4 - (m + 1))).hm ++ ghsD G m)
theorem ghsD_le (G : Nat → GB) : HpLe (ghsD G 4) (ghs G 4) := by
  simp only [ghsD, ghs, Nat.reduceAdd, Nat.reduceSub]
  (refine hpLe_cnt fun a => ?_; simp only [cntB_app, cntB_cons, cntB_nil]; omega)
section
variable {P : PtD} {Y : Lay} {w : World}
theorem partStopOut_e {pv gv ov : Value} (h : PartG w pv gv ov P) (hs : P.Small 1000) (cpu : Int) (hc : P.may = false ∨ PtD.btw cpu 0 ((P.on.length : Int) - 1) = false) : Fn Try.prog 15 [.agg #[pv, gv, ov], .int .i64 cpu].toArray w [] (DoR (.error 1)) := by
  obtain ⟨p, pc, g, gc, o, oc, rfl, rfl, rfl, _⟩ := h.slices
  have hlo := hs.on
  refine enter Try.func15 ?_
  refine run ?_
  intro B R
  refine run ?_
  refine callE (fun wc hG => check_e (h.good hG)) ?_
  cases hm : P.may
  · refine runC ?_
    exact finA1 rfl
  refine runC ?_
  refine callEG (fun hg wc hG => between_e _ _ _ wc) ?_
  rw [hc.resolve_left (by rw [hm]; decide)]
  refine runC ?_
  exact finA1 rfl
theorem partStop_e {pv gv ov : Value} (h : PartG w pv gv ov P) (hs : P.Small 1000) (hm : P.may = true) (cpu : Nat) (hc : cpu < P.on.length) : Fn Try.prog 15 [.agg #[pv, gv, ov], .int .i64 (cpu : Int)].toArray w [] (DoR (bif decide ((P.st cpu).vm = 0) then .error 6 else .ok (P.stopL cpu))) := by
  obtain ⟨p, pc, g, gc, o, oc, rfl, rfl, rfl, _⟩ := h.slices
  have hlo := hs.on
  refine enter Try.func15 ?_
  refine run ?_
  intro B R
  refine run ?_
  refine callE (fun wc hG => check_e (h.good hG)) ?_
  rw [hm]
  have hb : PtD.btw (cpu : Int) 0 ((P.on.length : Int) - 1) = true := by simp only [PtD.btw, Bool.and_eq_true, decide_eq_true_eq]; omega
  refine runC ?_
  refine callEG (fun hg wc hG => between_e _ _ _ wc) ?_
  rw [hb]
  obtain ⟨L, e1, e2, e3, hV⟩ := h.open (may_len hm)
  cases e1
  cases e2
  cases e3
  have hst := hV.st0 hc
  refine runC ?_
  refine st_cond _ rfl (fun hv => ?_) (fun hv => ?_)
  · rw [hv]
    refine runC ?_
    exact finA1 rfl
  rw [hv]
  simp only [decide_eq_false_iff_not] at hv
  refine runC ?_
  refine callB (fun wc hG => copied_e (h.good hG) (may_len hm) hs) ?_
  rintro _ hn ⟨Y, bx, rfl, hO, hle⟩
  refine ops_le (Y.hd P bx 66 ++ [⟨R, #[.slice none 0 0, .slice none 0 0, .slice none 0 0], 26⟩]) (by rw [hdY]; (refine hpLe_cnt fun a => ?_; have := HpLe.cnt hle a; simp only [cntB_app, cntB_cons, cntB_nil] at *; omega)) ?_
  refine runC ?_
  refine callM (Y.hd P bx 66) [⟨R, #[.slice none 0 0, .slice none 0 0, .slice none 0 0], 26⟩] (fun wc hG => stop_e hO hm hG.hereN cpu hc hv) (fun v hn2 hR => ?_) (by rw [hdY])
  obtain ⟨rfl, Y', hO', hle'⟩ := hR
  refine ops_le (⟨R, #[.slice none 0 0, .slice none 0 0, .slice none 0 0], 26⟩ :: Y'.hd (P.stopL cpu) bx 66) (by rw [hdY]; rw [hdY] at hle'; (refine hpLe_cnt fun a => ?_; have := HpLe.cnt hle' a; simp only [cntB_app, cntB_cons, cntB_nil] at *; omega)) ?_
  refine runC ?_
  refine finA1 ?_
  refine ⟨Y', rfl, hO', ?_⟩
  simp only [hdY]
  (refine hpLe_cnt fun a => ?_; simp only [cntB_app, cntB_cons, cntB_nil]; omega)
end
end Go.Proofs.Ytjnndchkblnkgaa
