/- Layers 5 and 16: tables, ways, what is put: the document's. -/
import Derived.Test.YtiggoglimlnmmaaDsE
namespace Go.Proofs.Ytiggoglimlnmmaa
open Go.RowKit
set_option linter.unusedVariables false
set_option linter.unusedSimpArgs false
set_option maxRecDepth 20000
/-- All are words. -/
def W64 (ws : List Nat) : Prop := ∀ x ∈ ws, x < 18446744073709551616
theorem W64.at {ws : List Nat} (h : W64 ws) (p : Nat) : ws.getD p 0 < 18446744073709551616 := by
  rw [List.getD_eq_getElem?_getD]
  cases hp : ws[p]? with
  | none => simp
  | some x => exact h x (List.mem_of_getElem? hp)
theorem W64.set {ws : List Nat} (h : W64 ws) {x : Nat} (hx : x < 18446744073709551616) (p : Nat) : W64 (ws.set p x) := by
  intro y hy
  rcases List.mem_or_eq_of_mem_set hy with hy | rfl
  · exact h y hy
  · exact hx
theorem W64.putL {ws : List Nat} (h : W64 ws) (p level : Nat) (d : DsD) : W64 (putL ws p level d) := h.set (DsD.word_lt _ _ _) p
theorem W64.zeroK {ws : List Nat} (h : W64 ws) (o k : Nat) : W64 (zeroK ws o k) := by
  induction k with
  | zero => exact h
  | succ k ih => exact ih.set (by decide) _
theorem W64.zeroF {ws : List Nat} (h : W64 ws) (f : Int) : W64 (zeroF ws f) := h.zeroK _ _
theorem W64.linkL {page : Nat} : ∀ (l : List Int) (p level : Nat) {ws : List Nat}, W64 ws → W64 (linkL page l p level ws).2 := by
  intro l
  induction l with
  | nil => intro p level ws h; exact h
  | cons f r ih => intro p level ws h; exact ih _ _ ((h.zeroF f).putL _ _ _)
theorem W64.eightL {ws : List Nat} (h : W64 ws) (o level : Nat) (d : DsD) (k : Nat) : W64 (eightL ws o level d k) := by
  induction k with
  | zero => exact h
  | succ k ih => exact ih.putL _ _ _
attribute [local irreducible] Hy St Ops DH DHF
section
variable {P : Program} {T : Tab} {n : Nat} {w0 : World} {mu : List Nat} {l : Fm} {hp : Hp} {dd : Option Nat} {ty : TypeId} {pos : String} {af : Array Edge} {gg : Option (Nat × Bool)} {t u : TypeId} {x y : Operand}
/-- Sums, products of natural numbers. -/
theorem x_addN {pi qi : Int} (hx : ev l x = some (.int .i64 pi)) (hy : ev l y = some (.int .i64 qi)) (p q r : Nat) (hpi : pi = (p : Int)) (hqi : qi = (q : Int)) (hr : p + q = r) (hb : r < 9223372036854775808) : Hy P n w0 mu l hp ⟨dd, .binOp .add t x y u, ty, pos, af, gg⟩ (.int .i64 (r : Int)) := by
  subst hpi hqi hr
  have := hy_addI (o := ⟨dd, .binOp .add t x y u, ty, pos, af, gg⟩) (P := P) (n := n) (w0 := w0) (mu := mu) (hp := hp) rfl hx hy (by omega) (by omega)
  rwa [← Int.natCast_add] at this
theorem x_mulN {pi qi : Int} (hx : ev l x = some (.int .i64 pi)) (hy : ev l y = some (.int .i64 qi)) (p q r : Nat) (hpi : pi = (p : Int)) (hqi : qi = (q : Int)) (hr : p * q = r) (hb : r < 9223372036854775808) : Hy P n w0 mu l hp ⟨dd, .binOp .mul t x y u, ty, pos, af, gg⟩ (.int .i64 (r : Int)) := by
  subst hpi hqi hr
  have e : (p : Int) * (q : Int) = ((p * q : Nat) : Int) := by simp
  have := hy_mulI (o := ⟨dd, .binOp .mul t x y u, ty, pos, af, gg⟩) (P := P) (n := n) (w0 := w0) (mu := mu) (hp := hp) rfl hx hy (by rw [e]; omega) (by rw [e]; omega)
  rwa [e] at this
end
/-- Four results, the second a struct. -/
theorem fin4 {fn : Func} {R : Value → Hp → Prop} {l : Fm} {hp : Hp} {a t b s0 s1 s2 : Nat} {cs : Array Value} {tb : TypeId} {v v1 v2 : Value} (h : R (.tuple #[v, .agg cs, v1, v2]) hp) (hr : fn.results = #[.tmp s0, .cell a t, .tmp s1, .tmp s2] := by rfl) (h0 : look l s0 = some v := by rfl) (hv : look l a = some (.pointer (some ⟨b, 0, none⟩)) := by rfl) (h1 : look l s1 = some v1 := by rfl) (h2 : look l s2 = some v2 := by rfl) (hag : mem Tb.ag t = true := by rfl) (hm : (⟨b, cs, tb⟩ : Blk) ∈ hp := by (first | (with_reducible apply mh) | (focus ((repeat (first | (with_reducible apply mh) | (with_reducible apply mt) | (with_reducible apply List.mem_append_right))); done)))) (hz : lk Tb.sz t = some cs.size := by rfl) : Fin Try.prog fn R .ret l hp :=
  ⟨.inl rfl, [v, .agg cs, v1, v2], by rw [hr]; exact ⟨h0, ⟨⟨b, cs, tb⟩, hm, hv, .inr ⟨tb_ok.gag hag, tb_ok.gsz hz, rfl⟩⟩, h1, h2, trivial⟩, h⟩
/-- A memory's words changed in their place. -/
theorem Own.setU {e : Nat} {v : Value} {h : Hp} {xs : List Nat} (hA : Own e 1 v h (xs.map uV)) {k : Nat} (hk : k < xs.length) : ∃ g cap cur, v = .slice (some ⟨g, 0, none⟩) xs.length cap ∧ h = [⟨g, cur, e⟩] ∧ k + 1 ≤ cur.size ∧
    ∀ z : Nat, Own e 1 (.slice (some ⟨g, 0, none⟩) xs.length cap) [⟨g, cur.setIfInBounds k (.int .u64 (z : Int)), e⟩] ((xs.set k z).map uV) := by
  obtain ⟨g, cap, cur, rfl, rfl, hr⟩ := hA.row (n := xs.length) (by simp) (by omega)
  have hall0 : ∀ (ys : List Nat), ∀ c ∈ ys.map uV, c.length = 1 ∧ c.all (·.oneCell') = true := by
    intro ys c hc
    obtain ⟨x, _, rfl⟩ := List.mem_map.1 hc
    exact ⟨rfl, rfl⟩
  have hall : ∀ c ∈ xs.map uV, c.length = 1 := fun c hc => (hall0 xs c hc).1
  have hi : (xs.map uV)[k]? = some (uV (xs.getD k 0)) := by
    rw [List.getElem?_map, List.getD_eq_getElem?_getD, List.getElem?_eq_getElem hk]; rfl
  have hsz := hr.size
  have hle := hr.le
  refine ⟨g, cap, cur, rfl, rfl, by omega, fun z => ⟨hall0 _, .inr ⟨g, cap, _, by simp, rfl, ?_⟩⟩⟩
  have h2 := hr.put hall hi (k := 0) (vs := [.int .u64 (z : Int)]) (by simp)
  have e1 : (uV (xs.getD k 0)).take 0 ++ [Value.int .u64 (z : Int)] ++ (uV (xs.getD k 0)).drop (0 + [Value.int .u64 (z : Int)].length) = uV z := rfl
  rw [e1, Nat.mul_one, Nat.add_zero] at h2
  have e2 : ((xs.set k z).map uV).length = xs.length := by simp
  rw [e2, List.map_set]
  exact h2
theorem Own.setG {e g n cap : Nat} {cur : Array Value} {xs : List Nat} (hA : Own e 1 (.slice (some ⟨g, 0, none⟩) n cap) [⟨g, cur, e⟩] (xs.map uV)) {k : Nat} (hk : k < xs.length) : k + 1 ≤ cur.size ∧ k < n ∧ n = xs.length ∧
    ∀ z : Nat, Own e 1 (.slice (some ⟨g, 0, none⟩) n cap) [⟨g, cur.setIfInBounds k (.int .u64 (z : Int)), e⟩] ((xs.set k z).map uV) := by
  obtain ⟨g', cap', cur', e1, e2, h1, h2⟩ := hA.setU hk
  injection e1 with e1 e3 e4
  injection e1 with e1
  injection e1 with e1
  injection e2 with e2
  injection e2 with _ e2
  subst e1 e3 e4 e2
  exact ⟨h1, hk, rfl, h2⟩
theorem ops_sub {n : Nat} {w0 : World} {mu : List Nat} {l : Fm} {Q : Exit → Fm → Hp → Prop} {all : Array Oper} {ops : List Oper} {h1 hn rest : Hp} (hle : HpLe h1 hn) (h : Ops Try.prog n w0 mu all ops l (h1 ++ rest) Q) : Ops Try.prog n w0 mu all ops l (hn ++ rest) Q := ops_le _ (cnt1 hle) h
/-- Three results, the first a struct. -/
theorem finA3 {fn : Func} {R : Value → Hp → Prop} {l : Fm} {hp : Hp} {a t b s1 s2 : Nat} {cs : Array Value} {tb : TypeId} {v1 v2 : Value} (h : R (.tuple #[.agg cs, v1, v2]) hp) (hr : fn.results = #[.cell a t, .tmp s1, .tmp s2] := by rfl) (hv : look l a = some (.pointer (some ⟨b, 0, none⟩)) := by rfl) (h1 : look l s1 = some v1 := by rfl) (h2 : look l s2 = some v2 := by rfl) (hag : mem Tb.ag t = true := by rfl) (hm : (⟨b, cs, tb⟩ : Blk) ∈ hp := by (first | (with_reducible apply mh) | (focus ((repeat (first | (with_reducible apply mh) | (with_reducible apply mt) | (with_reducible apply List.mem_append_right))); done)))) (hz : lk Tb.sz t = some cs.size := by rfl) : Fin Try.prog fn R .ret l hp :=
  ⟨.inl rfl, [.agg cs, v1, v2], by rw [hr]; exact ⟨⟨⟨b, cs, tb⟩, hm, hv, .inr ⟨tb_ok.gag hag, tb_ok.gsz hz, rfl⟩⟩, h1, h2, trivial⟩, h⟩
theorem idx_least {α : Type} [Inhabited α] (p : α → Bool) (l : List α) : ∀ j, p (l.getD j default) = true → ∃ j0, j0 ≤ j ∧ p (l.getD j0 default) = true ∧ ∀ i, i < j0 → p (l.getD i default) = false := by
  intro j
  induction j using Nat.strongRecOn with
  | ind j ih =>
    intro h
    by_cases hx : ∃ i, i < j ∧ p (l.getD i default) = true
    · obtain ⟨i, hi, hp⟩ := hx
      obtain ⟨j0, h0, h1, h2⟩ := ih i hi hp
      exact ⟨j0, by omega, h1, h2⟩
    · refine ⟨j, Nat.le_refl _, h, fun i hi => ?_⟩
      cases hp : p (l.getD i default) with
      | false => rfl
      | true => exact absurd ⟨i, hi, hp⟩ hx
theorem idxI_first (l : List Int) (k : Nat) (hk : k < l.length) : decide (idxI (fun t => decide (t = l.getD k default)) l = (k : Int)) = !(l.take k).any (fun t => decide (t = l.getD k 0)) := by
  cases h : (l.take k).any (fun t => decide (t = l.getD k 0)) with
  | false =>
    rw [idxI_at hk (by simp) fun j hj => ?_]
    · simp
    · have h2 := List.any_eq_false.1 h (l.getD j 0) (by
        rw [List.getD_eq_getElem?_getD, List.getElem?_eq_getElem (by omega)]
        exact List.mem_take_iff_getElem.2 ⟨j, by omega, rfl⟩)
      simpa using h2
  | true =>
    obtain ⟨x, hx, hxe⟩ := List.any_eq_true.1 h
    obtain ⟨j, hj, rfl⟩ := List.mem_take_iff_getElem.1 hx
    have hj1 : j < l.length := by omega
    have hje : decide (l.getD j default = l.getD k default) = true := by
      rw [List.getD_eq_getElem?_getD, List.getElem?_eq_getElem hj1]; exact hxe
    obtain ⟨j0, h0, h1, h2⟩ := idx_least (fun t => decide (t = l.getD k default)) l j hje
    rw [idxI_at (k := j0) (by omega) h1 h2]
    simp; omega
end Go.Proofs.Ytiggoglimlnmmaa
