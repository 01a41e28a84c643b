/- Layer 20: an ask opened. -/
import Derived.Test.YtcjbpdejlfomkaaBoC
import Derived.Test.YtcjbpdejlfomkaaOpY
namespace Go.Proofs.Ytcjbpdejlfomkaa
open Go.ChangeShapes Go.WideShapes Go.ChangeAt Go.RowKit
set_option linter.unusedVariables false
set_option linter.unusedSimpArgs false
set_option maxRecDepth 20000
section
variable {H : Type} {enc : TypeId × Value → H} {w : World} {base : Nat} {spare : Nat → Bool} {held : Bool}
theorem open_ask20 {fuel : Nat} {cs : List Value} {x : DataW H × List MemPlace} (h : DataW.trod enc Try.prog w base spare held fuel 76 cs = some x) (hz : Szd Try.prog 76 x.1) : ∃ nv wv cv mv rv lv N ms L, cs = [nv, wv, cv, mv, rv, lv] ∧ AskAt20 w nv wv cv mv rv lv N ms L := by
  obtain ⟨hl, n, hf⟩ := trod_fields Try.underlying76 h hz
  rw [cellsOf_sz (show szOf Try.prog 76 = some 6 from tb_ok.gsz rfl)] at hl
  match cs, hl with
  | [c0, c1, c2, c3, c4, c5], _ =>
    have s1 : Try.prog.cellsOf 69 = 1 := by kernel_rfl
    have s2 : Try.prog.cellsOf 74 = 4 := by kernel_rfl
    have s3 : Try.prog.cellsOf 25 = 1 := by kernel_rfl
    have s4 : Try.prog.cellsOf 24 = 1 := by kernel_rfl
    have s5 : Try.prog.cellsOf 70 = 1 := by kernel_rfl
    have s6 : Try.prog.cellsOf 71 = 1 := by kernel_rfl
    have s7 : Try.prog.cellsOf 72 = 1 := by kernel_rfl
    have s8 : Try.prog.cellsOf 22 = 1 := by kernel_rfl
    obtain ⟨_, h0, z0⟩ := hf 0 _ rfl
    obtain ⟨_, h1, z1⟩ := hf 1 _ rfl
    obtain ⟨_, h2, z2⟩ := hf 2 _ rfl
    simp only [List.getElem_toArray, List.getElem_cons_zero, List.getElem_cons_succ, s1, s2, s3, List.drop_zero, List.drop_succ_cons, List.take_succ_cons, List.take_zero] at h0 h1 h2 z0 z1 z2
    obtain ⟨_, n2, hg⟩ := trod_fields Try.underlying74 h1 z1
    obtain ⟨_, g0, y0⟩ := hg 0 _ rfl
    obtain ⟨_, g1, _⟩ := hg 1 _ rfl
    obtain ⟨_, g2, y2⟩ := hg 2 _ rfl
    obtain ⟨_, g3, _⟩ := hg 3 _ rfl
    simp only [List.getElem_toArray, List.getElem_cons_zero, List.getElem_cons_succ, s4, s5, s6, s7, List.drop_zero, List.drop_succ_cons, List.take_succ_cons, List.take_zero] at g0 g1 g2 g3 y0 y2
    obtain ⟨_, n3, hk⟩ := trod_fields Try.underlying24 g0 y0
    obtain ⟨_, k0, _⟩ := hk 0 _ rfl
    simp only [List.getElem_toArray, List.getElem_cons_zero, List.getElem_cons_succ, s8, List.drop_zero, List.take_succ_cons, List.take_zero] at k0
    obtain ⟨nv, N, e0, p0, _, _⟩ := open_pairs h0 z0
    obtain ⟨p, q, c, e1⟩ := open_any Try.underlying22 k0
    obtain ⟨p2, q2, d2, e2⟩ := open_any Try.underlying70 g1
    obtain ⟨mv, ms, e3, m3, _, _⟩ := open_vms g2 y2
    obtain ⟨p4, q4, d4, e4⟩ := open_any Try.underlying72 g3
    obtain ⟨lv, L, e5, l5, _, _⟩ := open_intsL h2 z2
    cases e0; cases e1; cases e2; cases e3; cases e4; cases e5
    exact ⟨_, _, _, _, _, _, N, ms, L, rfl, p0, m3, l5, ⟨_, _, _, rfl⟩, ⟨_, _, _, rfl⟩, ⟨_, _, _, rfl⟩⟩
end
end Go.Proofs.Ytcjbpdejlfomkaa
