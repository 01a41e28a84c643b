/- Layer 21 (abs): the ask of AbsBoots opened. -/
import Derived.Test.YtiaelhhmlbfkmaaGreatAbI
import Derived.Test.YtiaelhhmlbfkmaaGreatOpY
namespace Go.Proofs.YtiaelhhmlbfkmaaGreat
open Go.ChangeShapes Go.WideShapes Go.ChangeAt Go.RowKit
set_option linter.unusedVariables false
set_option linter.unusedSimpArgs false
set_option maxRecDepth 20000
theorem spoil_of {cs : List Value} (h : okLvW [.i .i64, .i .i64, .i .i64, .i .i64, .i .u64, .i .i64, .i .i64, .i .i64, .b, .i .i64, .i .i64, .i .i64, .i .i64, .b, .b, .b, .b, .b, .i .i64] cs = true) : ∃ s : Sp21, cs = sp21V s ∧ True := by
  obtain ⟨_, _, rfl, h0, r0⟩ := okLvW_cons h
  obtain ⟨_, _, rfl, h1, r1⟩ := okLvW_cons r0
  obtain ⟨_, _, rfl, h2, r2⟩ := okLvW_cons r1
  obtain ⟨_, _, rfl, h3, r3⟩ := okLvW_cons r2
  obtain ⟨_, _, rfl, h4, r4⟩ := okLvW_cons r3
  obtain ⟨_, _, rfl, h5, r5⟩ := okLvW_cons r4
  obtain ⟨_, _, rfl, h6, r6⟩ := okLvW_cons r5
  obtain ⟨_, _, rfl, h7, r7⟩ := okLvW_cons r6
  obtain ⟨_, _, rfl, h8, r8⟩ := okLvW_cons r7
  obtain ⟨_, _, rfl, h9, r9⟩ := okLvW_cons r8
  obtain ⟨_, _, rfl, h10, r10⟩ := okLvW_cons r9
  obtain ⟨_, _, rfl, h11, r11⟩ := okLvW_cons r10
  obtain ⟨_, _, rfl, h12, r12⟩ := okLvW_cons r11
  obtain ⟨_, _, rfl, h13, r13⟩ := okLvW_cons r12
  obtain ⟨_, _, rfl, h14, r14⟩ := okLvW_cons r13
  obtain ⟨_, _, rfl, h15, r15⟩ := okLvW_cons r14
  obtain ⟨_, _, rfl, h16, r16⟩ := okLvW_cons r15
  obtain ⟨_, _, rfl, h17, r17⟩ := okLvW_cons r16
  obtain ⟨_, _, rfl, h18, r18⟩ := okLvW_cons r17
  obtain ⟨a0, rfl, _⟩ := okW_i h0
  obtain ⟨a1, rfl, _⟩ := okW_i h1
  obtain ⟨a2, rfl, _⟩ := okW_i h2
  obtain ⟨a3, rfl, _⟩ := okW_i h3
  obtain ⟨a4, rfl, _⟩ := okW_u h4
  obtain ⟨a5, rfl, _⟩ := okW_i h5
  obtain ⟨a6, rfl, _⟩ := okW_i h6
  obtain ⟨a7, rfl, _⟩ := okW_i h7
  obtain ⟨a8, rfl⟩ := okW_b h8
  obtain ⟨a9, rfl, _⟩ := okW_i h9
  obtain ⟨a10, rfl, _⟩ := okW_i h10
  obtain ⟨a11, rfl, _⟩ := okW_i h11
  obtain ⟨a12, rfl, _⟩ := okW_i h12
  obtain ⟨a13, rfl⟩ := okW_b h13
  obtain ⟨a14, rfl⟩ := okW_b h14
  obtain ⟨a15, rfl⟩ := okW_b h15
  obtain ⟨a16, rfl⟩ := okW_b h16
  obtain ⟨a17, rfl⟩ := okW_b h17
  obtain ⟨a18, rfl, _⟩ := okW_i h18
  obtain rfl := okLvW_nil r18
  exact ⟨⟨a0, a1, a2, a3, a4, ⟨a5, a6, a7, a8, a9, a10, a11, a12, a13, a14, a15, a16, a17, a18⟩⟩, rfl, trivial⟩
section
variable {H : Type} {enc : TypeId × Value → H} {w : World} {base : Nat} {spare : Nat → Bool} {held : Bool}
theorem open_spoils {fuel : Nat} {cs : List Value} {x : DataW H × List MemPlace} (h : DataW.trod enc Tryz.prog w base spare held fuel 30 cs = some x) (hz : Szd Tryz.prog 30 x.1) : ∃ v, ∃ xs : List Sp21, cs = [v] ∧ SlAt w v 19 (xs.map sp21V) ∧ (∀ a ∈ xs, True) ∧ xs.length ≤ reachBytes :=
  open_flatL (f := sp21V) (q := fun _ => True) (ks := [.i .i64, .i .i64, .i .i64, .i .i64, .i .u64, .i .i64, .i .i64, .i .i64, .b, .i .i64, .i .i64, .i .i64, .i .i64, .b, .b, .b, .b, .b, .i .i64]) Tryz.underlying30 (by kernel_rfl) (tb_ok.gsz (t := 53) (s := 19) rfl) (by decide) (by kernel_rfl) (fun cs hc => spoil_of hc) h hz
/-- An ask as it lies. -/
structure Ask21 (w : World) (a b c d lv : Value) (L : List Sp21) : Prop where
  l : SlAt w lv 19 (L.map sp21V)
  s : ∃ p1 p2 p3 p4 n1 n2 n3 n4 c1 c2 c3 c4 : _, a = .slice p1 n1 c1 ∧ b = .slice p2 n2 c2 ∧ c = .slice p3 n3 c3 ∧ d = .slice p4 n4 c4
theorem lawAbsBoots_s {w : World} {a b c d lv : Value} {L : List Sp21} (h : Ask21 w a b c d lv L) : Fn Tryz.prog 3 [.agg #[a, b, c, d, lv]].toArray w [] (fun u _ => u = .bool true) := by
  obtain ⟨hl, p1, p2, p3, p4, n1, n2, n3, n4, c1, c2, c3, c4, rfl, rfl, rfl, rfl⟩ := h
  exact lawAbsBoots_e hl p1 p2 p3 p4 n1 n2 n3 n4 c1 c2 c3 c4
theorem open_ask21 {fuel : Nat} {cs : List Value} {x : DataW H × List MemPlace} (h : DataW.trod enc Tryz.prog w base spare held fuel 32 cs = some x) (hz : Szd Tryz.prog 32 x.1) : ∃ a b c d lv L, cs = [a, b, c, d, lv] ∧ Ask21 w a b c d lv L := by
  obtain ⟨hl, n, hf⟩ := trod_fields Tryz.underlying32 h hz
  rw [cellsOf_sz (show szOf Tryz.prog 32 = some 5 from tb_ok.gsz rfl)] at hl
  match cs, hl with
  | [c0, c1, c2, c3, c4], _ =>
    have s2 : Tryz.prog.cellsOf 29 = 4 := by kernel_rfl
    have s3 : Tryz.prog.cellsOf 30 = 1 := by kernel_rfl
    have s4 : Tryz.prog.cellsOf 24 = 1 := by kernel_rfl
    have s5 : Tryz.prog.cellsOf 25 = 1 := by kernel_rfl
    have s6 : Tryz.prog.cellsOf 26 = 1 := by kernel_rfl
    have s7 : Tryz.prog.cellsOf 27 = 1 := by kernel_rfl
    have s8 : Tryz.prog.cellsOf 22 = 1 := by kernel_rfl
    obtain ⟨_, h1, z1⟩ := hf 0 _ rfl
    obtain ⟨_, h2, z2⟩ := hf 1 _ rfl
    simp only [List.getElem_toArray, List.getElem_cons_zero, List.getElem_cons_succ, s2, s3, List.drop_zero, List.drop_succ_cons, List.take_succ_cons, List.take_zero] at h1 h2 z1 z2
    obtain ⟨_, n2, hg⟩ := trod_fields Tryz.underlying29 h1 z1
    obtain ⟨_, g0, y0⟩ := hg 0 _ rfl
    obtain ⟨_, g1, _⟩ := hg 1 _ rfl
    obtain ⟨_, g2, _⟩ := hg 2 _ rfl
    obtain ⟨_, g3, _⟩ := hg 3 _ rfl
    simp only [List.getElem_toArray, List.getElem_cons_zero, List.getElem_cons_succ, s4, s5, s6, s7, List.drop_zero, List.drop_succ_cons, List.take_succ_cons, List.take_zero] at g0 g1 g2 g3 y0
    obtain ⟨_, n3, hk⟩ := trod_fields Tryz.underlying24 g0 y0
    obtain ⟨_, k0, _⟩ := hk 0 _ rfl
    simp only [List.getElem_toArray, List.getElem_cons_zero, List.getElem_cons_succ, s8, List.drop_zero, List.take_succ_cons, List.take_zero] at k0
    obtain ⟨p, q, c, e1⟩ := open_any Tryz.underlying22 k0
    obtain ⟨p2, q2, d2, e2⟩ := open_any Tryz.underlying25 g1
    obtain ⟨p3, q3, d3, e3⟩ := open_any Tryz.underlying26 g2
    obtain ⟨p4, q4, d4, e4⟩ := open_any Tryz.underlying27 g3
    obtain ⟨lv, L, e5, l5, _, _⟩ := open_spoils h2 z2
    cases e1; cases e2; cases e3; cases e4; cases e5
    exact ⟨_, _, _, _, _, L, rfl, l5, ⟨_, _, _, _, _, _, _, _, _, _, _, _, rfl, rfl, rfl, rfl⟩⟩
end
end Go.Proofs.YtiaelhhmlbfkmaaGreat
