/- Layer 18 (part): wakes. -/
import Derived.Test.YtdfkcjjbflcafaaGreatPartP
namespace Go.Proofs.YtdfkcjjbflcafaaGreat
open Go.RowKit
set_option linter.unusedVariables false
set_option linter.unusedSimpArgs false
set_option maxRecDepth 20000
attribute [local irreducible] Hy St Ops DH DHF
/-- The world as it is now. -/
theorem opsW {P : Program} {n : Nat} {w0 : World} {mu : List Nat} {l : Fm} {hp : Hp} {Q : Exit → Fm → Hp → Prop} {all : Array Oper} {ops : List Oper} (h : ∀ w, Good w0 mu hp w → Ops P n w0 mu all ops l hp Q) : Ops P n w0 mu all ops l hp Q := by
  unfold Ops at h ⊢
  exact fun a w hk hg => h w hg a w hk hg
theorem stW {P : Program} {n : Nat} {w0 : World} {mu : List Nat} {l : Fm} {hp : Hp} {Q : Exit → Fm → Hp → Prop} {c : Code} (h : ∀ w, Good w0 mu hp w → St P n w0 mu c l hp Q) : St P n w0 mu c l hp Q := by
  unfold St at h ⊢
  exact fun a w hk hg => h w hg a w hk hg
/-- Three slices. -/
theorem PartG.slices {w : World} {pv gv ov : Value} {P : PtD} (h : PartG w pv gv ov P) : ∃ p pc g gc o oc, pv = .slice p P.pages.length pc ∧ gv = .slice g P.guests.length gc ∧ ov = .slice o P.on.length oc ∧ P.pages.length ≤ 281474976710656 ∧ P.guests.length ≤ 281474976710656 ∧ P.on.length ≤ 281474976710656 := by
  obtain ⟨p1, ⟨vv, mv, ⟨⟨g, gc, e2, hg⟩, hl⟩, g2⟩, o1, wf⟩ := h
  obtain ⟨p, pc, rfl, _, hl1⟩ := p1.opened
  obtain ⟨o, oc, rfl, _, hl2⟩ := o1.opened
  simp only [List.length_map, List.length_range] at e2 hl
  exact ⟨p, pc, g, gc, o, oc, rfl, e2, rfl, hl1, hl, hl2⟩
theorem ofBoot : ofL (bootL 24 1) 0 = (8, 8, 0) := by kernel_rfl
theorem wakes_e (w : World) : Fn Tryz.prog 21 [].toArray w [] (fun u _ => u = .bool true) := by
  refine enter Tryz.func21 ?_
  refine run ?_
  refine callB (fun wc hG => boot_e 24 1 wc) ?_
  intro v hn hb
  obtain ⟨pv, gv, ov, rfl, hp⟩ : ∃ pv gv ov, v = .tuple #[.agg #[pv, gv, ov], .int .i64 0] ∧ ∀ w, Here hn w → PartG w pv gv ov (bootL 24 1) := hb
  refine opsW fun wn hGn => ?_
  obtain ⟨p, pc, g, gc, o, oc, rfl, rfl, rfl, _⟩ := (hp wn (hGn.lie fun e he => by simp [he])).slices
  refine run ?_
  intro B
  refine callE (fun wc hG => of_e (hp wc (hG.lie fun e he => by simp [he])) 0) ?_
  rw [ofBoot]
  refine run ?_
  refine callE (fun wc hG => num18_e _ wc) ?_
  refine runG ?_
  refine callEG (fun hg wc hG => num18_e _ wc) ?_
  refine runG ?_
  refine fin1 ?_
  rfl
end Go.Proofs.YtdfkcjjbflcafaaGreat
