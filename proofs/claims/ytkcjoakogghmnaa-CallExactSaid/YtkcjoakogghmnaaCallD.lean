/- Layer 19 (call): the questions, opened out of any argument: a slice of structs of fifteen words, six numbers and a number. -/
import Derived.Test.YtkcjoakogghmnaaCallC
import Derived.Test.YtkcjoakogghmnaaOpen
namespace Go.Proofs.Ytkcjoakogghmnaa
open Go.ChangeShapes Go.WideShapes Go.ChangeAt Go.RowKit
set_option linter.unusedVariables false
set_option linter.unusedSimpArgs false
instance : Inhabited AskD := ⟨⟨[], [], 0⟩⟩
theorem ints_of {k : IntKind} {ks : List Leaf} : ∀ (n : Nat) (cs : List Value), okLvW (List.replicate n (.i k) ++ ks) cs = true → ∃ (ns : List Int) (tl : List Value), cs = ns.map (Value.int k) ++ tl ∧ ns.length = n ∧ (∀ v ∈ ns, (Lit.int k v).wf = true) ∧ okLvW ks tl = true := by
  intro n
  induction n with
  | zero => intro cs h; exact ⟨[], cs, rfl, rfl, by simp, by simpa using h⟩
  | succ n ih =>
    intro cs h
    cases cs with
    | nil => simp [List.replicate_succ, okLvW] at h
    | cons c cs =>
      simp only [List.replicate_succ, List.cons_append, okLvW, Bool.and_eq_true] at h
      obtain ⟨h1, h2⟩ := h
      obtain ⟨ns, tl, rfl, hn, hw, ht⟩ := ih cs h2
      cases c <;> simp only [okW, Bool.and_eq_true, decide_eq_true_eq, Bool.false_eq_true] at h1
      obtain ⟨rfl, h1⟩ := h1
      refine ⟨_ :: ns, tl, rfl, by simp [hn], ?_, ht⟩
      intro v hv
      rcases List.mem_cons.1 hv with rfl | hv
      · exact h1
      · exact hw v hv
theorem bounds_u64 {n : Int} (h : (Lit.int .u64 n).wf = true) : U64 n := by
  simp only [Lit.wf, Bool.and_eq_true, decide_eq_true_eq] at h
  exact ⟨Int.le_trans (by decide) h.1, Int.le_trans h.2 (by decide)⟩
theorem ask_of (cs : List Value) (h : okLvW (List.replicate 15 (.i .u64) ++ (List.replicate 6 (.i .i64) ++ (List.replicate 1 (.i .i64) ++ []))) cs = true) : ∃ x : AskD, x.ok ∧ cs = x.r.map (Value.int .u64) ++ (x.c.map (Value.int .i64) ++ [.int .i64 x.e]) := by
  obtain ⟨r, t1, rfl, hr, hrw, h1⟩ := ints_of 15 cs h
  obtain ⟨c, t2, rfl, hc, hcw, h2⟩ := ints_of 6 t1 h1
  obtain ⟨e, t3, rfl, he, hew, h3⟩ := ints_of 1 t2 h2
  obtain rfl : t3 = [] := by cases t3 <;> simp_all [okLvW]
  match e, he with
  | [e], _ =>
    refine ⟨⟨r, c, e⟩, ⟨hr, hc, fun v hv => bounds_u64 (hrw v hv), fun v hv => bounds_i64 (hcw v hv), bounds_i64 (hew e (by simp))⟩, by simp⟩
theorem rangeAt_app {w : World} {b o : Nat} {xs ys : List Value} (h : w.rangeAt b o (xs ++ ys)) : w.rangeAt b o xs ∧ w.rangeAt b (o + xs.length) ys := by
  refine ⟨fun j v hj => h j v ?_, fun j v hj => ?_⟩
  · have : j < xs.length := by
      rcases Nat.lt_or_ge j xs.length with h | h
      · exact h
      · rw [List.getElem?_eq_none h] at hj; cases hj
    rw [List.getElem?_append_left this]; exact hj
  · rw [Nat.add_assoc]
    exact h (xs.length + j) v (by rw [List.getElem?_append_right (by omega)]; simpa using hj)
theorem asks_of {H : Type} {enc : TypeId × Value → H} {w : World} {base : Nat} {spare : Nat → Bool} {held : Bool} {fuel : Nat} {v : Value} {x : DataW H × List MemPlace} (hv : ∃ a n c, v = .slice a n c)
    (h : DataW.trod enc Try.prog w base spare held fuel 22 v.cells.toList = some x) : ∃ xs, Asks w v xs := by
  have hks : lk Lt 35 = some (List.replicate 15 (.i .u64) ++ (List.replicate 6 (.i .i64) ++ (List.replicate 1 (.i .i64) ++ []))) := rfl
  obtain ⟨p, len, cap, rfl, hm, hz⟩ := open_rows (P := Try.prog) (t := 22) (e := 35) Try.underlying22 (lf_get lt_ok hks).1 (tb_ok.gsz rfl) (by simp) h hv
  rcases hz with rfl | ⟨b, off, rfl, hrow⟩
  · exact ⟨[], ⟨p, cap, rfl, by simp⟩, by simp, by simp⟩
  · obtain ⟨D, hD⟩ := Go.Deep.choose_lt (α := AskD) (n := len) (p := fun i x => x.ok ∧ w.rangeAt b (off + i * 22) (x.r.map (Value.int .u64) ++ (x.c.map (Value.int .i64) ++ [.int .i64 x.e]))) (fun i hi => by
      obtain ⟨cs, h1, h2, _⟩ := hrow i hi
      obtain ⟨x, hx, rfl⟩ := ask_of cs h2
      exact ⟨x, hx, h1⟩)
    refine ⟨(List.range len).map D, ⟨some ⟨b, off, none⟩, cap, by simp, fun _ => ⟨b, off, rfl, fun i x hx => ?_⟩⟩, ?_, by simpa using hm⟩
    · have hi : i < len := by
        rcases Nat.lt_or_ge i len with h | h
        · exact h
        · rw [List.getElem?_eq_none (by simpa using h)] at hx; cases hx
      simp [hi] at hx
      subst hx
      obtain ⟨ho, hr⟩ := hD i hi
      obtain ⟨r1, r2⟩ := rangeAt_app hr
      obtain ⟨r2, r3⟩ := rangeAt_app r2
      simp only [List.length_map, ho.1, ho.2.1] at r2 r3
      exact ⟨r1, r2, r3 0 _ rfl⟩
    · intro x hx
      simp only [List.mem_map, List.mem_range] at hx
      obtain ⟨i, hi, rfl⟩ := hx
      exact (hD i hi).1
end Go.Proofs.Ytkcjoakogghmnaa
