/- Layer 16: scripts whose calls are of one kind; scripts opened. -/
import Derived.Test.YtiggoglimlnmmaaPgI
import Derived.Test.YtiggoglimlnmmaaOpY
namespace Go.Proofs.Ytiggoglimlnmmaa
open Go.ChangeShapes Go.WideShapes Go.ChangeAt Go.RowKit
set_option linter.unusedVariables false
set_option linter.unusedSimpArgs false
set_option maxRecDepth 20000
attribute [local irreducible] Hy St Ops DH DHF
section
variable {H : Type} {enc : TypeId × Value → H} {w : World} {base : Nat} {spare : Nat → Bool} {held : Bool}
theorem open_act {fuel : Nat} {cs : List Value} {x : DataW H × List MemPlace} (h : DataW.trod enc Try.prog w base spare held fuel 36 cs = some x) (hz : Szd Try.prog 36 x.1) : ∃ a : AcD, cs = acV a ∧ a.ll ≤ reachBytes := by
  obtain ⟨hl, n, hf⟩ := trod_fields Try.underlying36 h hz
  rw [cellsOf_sz (show szOf Try.prog 36 = some 13 from tb_ok.gsz rfl)] at hl
  match cs, hl with
  | [c0, c1, c2, c3, c4, c5, c6, c7, c8, c9, c10, c11, c12], _ =>
    have c1s : Try.prog.cellsOf 3 = 1 := by kernel_rfl
    have c2s : Try.prog.cellsOf 34 = 9 := by kernel_rfl
    have c3s : Try.prog.cellsOf 25 = 1 := by kernel_rfl
    obtain ⟨_, h0, _⟩ := hf 0 _ rfl
    obtain ⟨_, h1, _⟩ := hf 1 _ rfl
    obtain ⟨_, h2, _⟩ := hf 2 _ rfl
    obtain ⟨_, h3, _⟩ := hf 3 _ rfl
    obtain ⟨_, h4, z4⟩ := hf 4 _ rfl
    simp only [List.getElem_toArray, List.getElem_cons_zero, List.getElem_cons_succ, c1s, c2s, c3s, List.drop_zero, List.drop_succ_cons, List.take_succ_cons, List.take_zero] at h0 h1 h2 h3 h4 z4
    obtain ⟨k0, e0, _⟩ := DataW.trod_int Try.underlying3 h0
    obtain ⟨k1, e1, _⟩ := DataW.trod_int Try.underlying3 h1
    obtain ⟨k2, e2, _⟩ := DataW.trod_int Try.underlying3 h2
    obtain ⟨d, e3⟩ := desc_of (trod_leaves 8 34 [.i .i64, .i .i64, .b, .b, .b, .b, .b, .i .i64, .i .i64] (by kernel_rfl) (by kernel_rfl) _ _ _ h3)
    obtain ⟨v, xs, e4, s4, _, l4⟩ := open_intsL h4 z4
    obtain ⟨p, c, rfl, _, _⟩ := s4.opened
    cases e0; cases e1; cases e2; cases e3; cases e4
    exact ⟨⟨k0, k1, k2, d, p, xs.length, c⟩, rfl, l4⟩
theorem open_acts16 {fuel : Nat} {cs : List Value} {x : DataW H × List MemPlace} (h : DataW.trod enc Try.prog w base spare held fuel 26 cs = some x) (hz : Szd Try.prog 26 x.1) : ∃ v, ∃ xs : List AcD, cs = [v] ∧ SlAt w v 13 (xs.map acV) ∧ (∀ a ∈ xs, a.ll ≤ reachBytes) ∧ xs.length ≤ reachBytes := by
  obtain ⟨p, xs, cap, rfl, hl, hr⟩ := open_each (α := AcD) (R := fun cs a => cs = acV a ∧ a.ll ≤ reachBytes) Try.underlying26 (tb_ok.gsz (t := 36) (s := 13) rfl) (by decide) (by kernel_rfl) (fun n cs x hx hz => open_act hx hz) h hz
  obtain ⟨h1, h2⟩ := slAt_each (f := acV) (q := fun a => a.ll ≤ reachBytes) hl hr
  exact ⟨_, xs, rfl, h1, h2, hl⟩
theorem open_script16 {fuel : Nat} {cs : List Value} {x : DataW H × List MemPlace} (h : DataW.trod enc Try.prog w base spare held fuel 28 cs = some x) (hz : Szd Try.prog 28 x.1) : ∃ wv fv lv S, cs = [wv, .int .i64 S.root, fv, lv] ∧ SkAt w wv fv lv S := by
  obtain ⟨hl, n, hf⟩ := trod_fields Try.underlying28 h hz
  rw [cellsOf_sz (show szOf Try.prog 28 = some 4 from tb_ok.gsz rfl)] at hl
  match cs, hl with
  | [c0, c1, c2, c3], _ =>
    have c1s : Try.prog.cellsOf 24 = 1 := by kernel_rfl
    have c2s : Try.prog.cellsOf 3 = 1 := by kernel_rfl
    have c3s : Try.prog.cellsOf 25 = 1 := by kernel_rfl
    have c4s : Try.prog.cellsOf 26 = 1 := by kernel_rfl
    obtain ⟨_, h0, z0⟩ := hf 0 _ rfl
    obtain ⟨_, h1, _⟩ := hf 1 _ rfl
    obtain ⟨_, h2, z2⟩ := hf 2 _ rfl
    obtain ⟨_, h3, z3⟩ := hf 3 _ rfl
    simp only [List.getElem_toArray, List.getElem_cons_zero, List.getElem_cons_succ, c1s, c2s, c3s, c4s, List.drop_zero, List.drop_succ_cons, List.take_succ_cons, List.take_zero] at h0 h1 h2 h3 z0 z2 z3
    obtain ⟨_, n2, hf2⟩ := trod_fields Try.underlying24 h0 z0
    have c5s : Try.prog.cellsOf 22 = 1 := by kernel_rfl
    obtain ⟨_, g0, y0⟩ := hf2 0 _ rfl
    simp only [List.getElem_toArray, List.getElem_cons_zero, List.getElem_cons_succ, c5s, List.drop_zero, List.take_succ_cons, List.take_zero] at g0 y0
    obtain ⟨wv, ws, e0, s0, w0, l0⟩ := open_words g0 y0
    obtain ⟨k1, e1, _⟩ := DataW.trod_int Try.underlying3 h1
    obtain ⟨fv, fr, e2, s2, _, l2⟩ := open_intsL h2 z2
    obtain ⟨lv, xs, e3, s3, w3, l3⟩ := open_acts16 h3 z3
    cases e0; cases e1; cases e2; cases e3
    exact ⟨_, _, _, ⟨ws, k1, fr, xs⟩, rfl, w0, s0, s2, s3, Nat.le_trans l0 (by decide), Nat.le_trans l2 (by decide), Nat.le_trans l3 (by decide), fun a ha => Nat.le_trans (w3 a ha) (by decide)⟩
end
end Go.Proofs.Ytiggoglimlnmmaa
