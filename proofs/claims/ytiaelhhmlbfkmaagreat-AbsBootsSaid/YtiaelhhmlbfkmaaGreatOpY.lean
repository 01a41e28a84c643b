/- Arguments opened: words, numbers, descriptors, entries, TLBs, machines. -/
import Derived.Test.YtiaelhhmlbfkmaaGreatLay1
import Derived.Test.YtiaelhhmlbfkmaaGreatHyA
namespace Go.Proofs.YtiaelhhmlbfkmaaGreat
open Go.ChangeShapes Go.WideShapes Go.ChangeAt Go.RowKit
set_option linter.unusedVariables false
set_option linter.unusedSimpArgs false
set_option maxRecDepth 20000
theorem okW_u {v : Value} (h : okW (.i .u64) v = true) : ∃ a : Nat, v = .int .u64 (a : Int) ∧ a < 18446744073709551616 := by
  cases v <;> simp only [okW, Bool.and_eq_true, decide_eq_true_eq, Bool.false_eq_true] at h
  obtain ⟨rfl, h⟩ := h
  rename_i n
  simp only [Lit.wf, Bool.and_eq_true, decide_eq_true_eq] at h
  have h0 : 0 ≤ n := Int.le_trans (by decide) h.1
  have h1 : n ≤ 18446744073709551615 := Int.le_trans h.2 (by decide)
  exact ⟨n.toNat, by rw [Int.toNat_of_nonneg h0], by omega⟩
theorem entry_of {cs : List Value} (h : okLvW [.i .i64, .i .i64, .i .i64, .b, .i .i64, .i .i64, .i .i64, .i .i64, .b, .b, .b, .b, .b, .i .i64] cs = true) : ∃ e : EnD, cs = enV e ∧ True := by
  obtain ⟨_, _, rfl, h0, r0⟩ := okLvW_cons h
  obtain ⟨_, _, rfl, h1, r1⟩ := okLvW_cons r0
  obtain ⟨_, _, rfl, h2, r2⟩ := okLvW_cons r1
  obtain ⟨_, _, rfl, h3, r3⟩ := okLvW_cons r2
  obtain ⟨_, _, rfl, h4, r4⟩ := okLvW_cons r3
  obtain ⟨_, _, rfl, h5, r5⟩ := okLvW_cons r4
  obtain ⟨_, _, rfl, h6, r6⟩ := okLvW_cons r5
  obtain ⟨_, _, rfl, h7, r7⟩ := okLvW_cons r6
  obtain ⟨_, _, rfl, h8, r8⟩ := okLvW_cons r7
  obtain ⟨_, _, rfl, h9, r9⟩ := okLvW_cons r8
  obtain ⟨_, _, rfl, h10, r10⟩ := okLvW_cons r9
  obtain ⟨_, _, rfl, h11, r11⟩ := okLvW_cons r10
  obtain ⟨_, _, rfl, h12, r12⟩ := okLvW_cons r11
  obtain ⟨_, _, rfl, h13, r13⟩ := okLvW_cons r12
  obtain ⟨a0, rfl, _⟩ := okW_i h0
  obtain ⟨a1, rfl, _⟩ := okW_i h1
  obtain ⟨a2, rfl, _⟩ := okW_i h2
  obtain ⟨a3, rfl⟩ := okW_b h3
  obtain ⟨a4, rfl, _⟩ := okW_i h4
  obtain ⟨a5, rfl, _⟩ := okW_i h5
  obtain ⟨a6, rfl, _⟩ := okW_i h6
  obtain ⟨a7, rfl, _⟩ := okW_i h7
  obtain ⟨a8, rfl⟩ := okW_b h8
  obtain ⟨a9, rfl⟩ := okW_b h9
  obtain ⟨a10, rfl⟩ := okW_b h10
  obtain ⟨a11, rfl⟩ := okW_b h11
  obtain ⟨a12, rfl⟩ := okW_b h12
  obtain ⟨a13, rfl, _⟩ := okW_i h13
  obtain rfl := okLvW_nil r13
  exact ⟨⟨a0, a1, a2, a3, a4, a5, a6, a7, a8, a9, a10, a11, a12, a13⟩, rfl, trivial⟩
theorem inval_of {cs : List Value} (h : okLvW [.i .i64, .i .i64, .i .i64, .i .i64] cs = true) : ∃ e : IvD, cs = ivV e ∧ True := by
  obtain ⟨_, _, rfl, h0, r0⟩ := okLvW_cons h
  obtain ⟨_, _, rfl, h1, r1⟩ := okLvW_cons r0
  obtain ⟨_, _, rfl, h2, r2⟩ := okLvW_cons r1
  obtain ⟨_, _, rfl, h3, r3⟩ := okLvW_cons r2
  obtain ⟨a0, rfl, _⟩ := okW_i h0
  obtain ⟨a1, rfl, _⟩ := okW_i h1
  obtain ⟨a2, rfl, _⟩ := okW_i h2
  obtain ⟨a3, rfl, _⟩ := okW_i h3
  obtain rfl := okLvW_nil r3
  exact ⟨⟨a0, a1, a2, a3⟩, rfl, trivial⟩
/-- All are words. -/
def RgD.Fits (r : RgD) : Prop := r.x0 < 18446744073709551616 ∧ r.x1 < 18446744073709551616 ∧ r.x2 < 18446744073709551616 ∧ r.x3 < 18446744073709551616 ∧ r.x4 < 18446744073709551616 ∧ r.x5 < 18446744073709551616 ∧ r.x6 < 18446744073709551616 ∧ r.x7 < 18446744073709551616 ∧ r.pc < 18446744073709551616 ∧ r.ttbr < 18446744073709551616 ∧ r.sctlr < 18446744073709551616 ∧ r.vbar < 18446744073709551616 ∧ r.elr < 18446744073709551616 ∧ r.esr < 18446744073709551616 ∧ r.far < 18446744073709551616
theorem regs_of {cs : List Value} (h : okLvW [.i .u64, .i .u64, .i .u64, .i .u64, .i .u64, .i .u64, .i .u64, .i .u64, .i .u64, .i .u64, .i .u64, .i .u64, .i .u64, .i .u64, .i .u64] cs = true) : ∃ r : RgD, cs = rgV r ∧ r.Fits := by
  obtain ⟨_, _, rfl, h0, r0⟩ := okLvW_cons h
  obtain ⟨_, _, rfl, h1, r1⟩ := okLvW_cons r0
  obtain ⟨_, _, rfl, h2, r2⟩ := okLvW_cons r1
  obtain ⟨_, _, rfl, h3, r3⟩ := okLvW_cons r2
  obtain ⟨_, _, rfl, h4, r4⟩ := okLvW_cons r3
  obtain ⟨_, _, rfl, h5, r5⟩ := okLvW_cons r4
  obtain ⟨_, _, rfl, h6, r6⟩ := okLvW_cons r5
  obtain ⟨_, _, rfl, h7, r7⟩ := okLvW_cons r6
  obtain ⟨_, _, rfl, h8, r8⟩ := okLvW_cons r7
  obtain ⟨_, _, rfl, h9, r9⟩ := okLvW_cons r8
  obtain ⟨_, _, rfl, h10, r10⟩ := okLvW_cons r9
  obtain ⟨_, _, rfl, h11, r11⟩ := okLvW_cons r10
  obtain ⟨_, _, rfl, h12, r12⟩ := okLvW_cons r11
  obtain ⟨_, _, rfl, h13, r13⟩ := okLvW_cons r12
  obtain ⟨_, _, rfl, h14, r14⟩ := okLvW_cons r13
  obtain ⟨a0, rfl, b0⟩ := okW_u h0
  obtain ⟨a1, rfl, b1⟩ := okW_u h1
  obtain ⟨a2, rfl, b2⟩ := okW_u h2
  obtain ⟨a3, rfl, b3⟩ := okW_u h3
  obtain ⟨a4, rfl, b4⟩ := okW_u h4
  obtain ⟨a5, rfl, b5⟩ := okW_u h5
  obtain ⟨a6, rfl, b6⟩ := okW_u h6
  obtain ⟨a7, rfl, b7⟩ := okW_u h7
  obtain ⟨a8, rfl, b8⟩ := okW_u h8
  obtain ⟨a9, rfl, b9⟩ := okW_u h9
  obtain ⟨a10, rfl, b10⟩ := okW_u h10
  obtain ⟨a11, rfl, b11⟩ := okW_u h11
  obtain ⟨a12, rfl, b12⟩ := okW_u h12
  obtain ⟨a13, rfl, b13⟩ := okW_u h13
  obtain ⟨a14, rfl, b14⟩ := okW_u h14
  obtain rfl := okLvW_nil r14
  exact ⟨⟨a0, a1, a2, a3, a4, a5, a6, a7, a8, a9, a10, a11, a12, a13, a14⟩, rfl, b0, b1, b2, b3, b4, b5, b6, b7, b8, b9, b10, b11, b12, b13, b14⟩
theorem vcpu_of {cs : List Value} (h : okLvW [.i .u64, .i .u64, .i .u64, .i .u64, .i .u64, .i .u64, .i .u64, .i .u64, .i .u64, .i .u64, .i .u64, .i .u64, .i .u64, .i .u64, .i .u64, .i .i64] cs = true) : ∃ c : VcD, cs = vcV c ∧ c.r.Fits := by
  obtain ⟨_, _, rfl, h0, r0⟩ := okLvW_cons h
  obtain ⟨_, _, rfl, h1, r1⟩ := okLvW_cons r0
  obtain ⟨_, _, rfl, h2, r2⟩ := okLvW_cons r1
  obtain ⟨_, _, rfl, h3, r3⟩ := okLvW_cons r2
  obtain ⟨_, _, rfl, h4, r4⟩ := okLvW_cons r3
  obtain ⟨_, _, rfl, h5, r5⟩ := okLvW_cons r4
  obtain ⟨_, _, rfl, h6, r6⟩ := okLvW_cons r5
  obtain ⟨_, _, rfl, h7, r7⟩ := okLvW_cons r6
  obtain ⟨_, _, rfl, h8, r8⟩ := okLvW_cons r7
  obtain ⟨_, _, rfl, h9, r9⟩ := okLvW_cons r8
  obtain ⟨_, _, rfl, h10, r10⟩ := okLvW_cons r9
  obtain ⟨_, _, rfl, h11, r11⟩ := okLvW_cons r10
  obtain ⟨_, _, rfl, h12, r12⟩ := okLvW_cons r11
  obtain ⟨_, _, rfl, h13, r13⟩ := okLvW_cons r12
  obtain ⟨_, _, rfl, h14, r14⟩ := okLvW_cons r13
  obtain ⟨_, _, rfl, h15, r15⟩ := okLvW_cons r14
  obtain ⟨a0, rfl, b0⟩ := okW_u h0
  obtain ⟨a1, rfl, b1⟩ := okW_u h1
  obtain ⟨a2, rfl, b2⟩ := okW_u h2
  obtain ⟨a3, rfl, b3⟩ := okW_u h3
  obtain ⟨a4, rfl, b4⟩ := okW_u h4
  obtain ⟨a5, rfl, b5⟩ := okW_u h5
  obtain ⟨a6, rfl, b6⟩ := okW_u h6
  obtain ⟨a7, rfl, b7⟩ := okW_u h7
  obtain ⟨a8, rfl, b8⟩ := okW_u h8
  obtain ⟨a9, rfl, b9⟩ := okW_u h9
  obtain ⟨a10, rfl, b10⟩ := okW_u h10
  obtain ⟨a11, rfl, b11⟩ := okW_u h11
  obtain ⟨a12, rfl, b12⟩ := okW_u h12
  obtain ⟨a13, rfl, b13⟩ := okW_u h13
  obtain ⟨a14, rfl, b14⟩ := okW_u h14
  obtain ⟨a15, rfl, _⟩ := okW_i h15
  obtain rfl := okLvW_nil r15
  exact ⟨⟨⟨a0, a1, a2, a3, a4, a5, a6, a7, a8, a9, a10, a11, a12, a13, a14⟩, a15⟩, rfl, b0, b1, b2, b3, b4, b5, b6, b7, b8, b9, b10, b11, b12, b13, b14⟩
theorem pair_of {cs : List Value} (h : okLvW [.i .i64, .i .i64] cs = true) : ∃ p : Int × Int, cs = [.int .i64 p.1, .int .i64 p.2] ∧ True := by
  obtain ⟨a, b, rfl, _, _⟩ := ints2_of h
  exact ⟨(a, b), rfl, trivial⟩
theorem bool_of {cs : List Value} (h : okLvW [.b] cs = true) : ∃ b, cs = [.bool b] := by
  obtain ⟨_, _, rfl, h1, r⟩ := okLvW_cons h
  obtain ⟨a, rfl⟩ := okW_b h1
  obtain rfl := okLvW_nil r
  exact ⟨a, rfl⟩
section
variable {H : Type} {enc : TypeId × Value → H} {w : World} {base : Nat} {spare : Nat → Bool} {held : Bool}
theorem open_words {fuel : Nat} {cs : List Value} {x : DataW H × List MemPlace} (h : DataW.trod enc Tryz.prog w base spare held fuel 22 cs = some x) (hz : Szd Tryz.prog 22 x.1) : ∃ v, ∃ xs : List Nat, cs = [v] ∧ SlAt w v 1 (xs.map uV) ∧ (∀ a ∈ xs, a < 18446744073709551616) ∧ xs.length ≤ reachBytes :=
  open_flatL (ks := [.i .u64]) Tryz.underlying22 (by kernel_rfl) (by kernel_rfl) (by decide) (by kernel_rfl) (fun cs h => by
    obtain ⟨_, _, rfl, h1, h⟩ := okLvW_cons h
    obtain rfl := okLvW_nil h
    obtain ⟨a, rfl, ha⟩ := okW_u h1
    exact ⟨a, rfl, ha⟩) h hz
theorem open_intsL {fuel : Nat} {cs : List Value} {x : DataW H × List MemPlace} (h : DataW.trod enc Tryz.prog w base spare held fuel 108 cs = some x) (hz : Szd Tryz.prog 108 x.1) : ∃ v, ∃ xs : List Int, cs = [v] ∧ SlAt w v 1 (xs.map inV) ∧ (∀ a ∈ xs, I64 a) ∧ xs.length ≤ reachBytes :=
  open_flatL (ks := [.i .i64]) Tryz.underlying108 (by kernel_rfl) (by kernel_rfl) (by decide) (by kernel_rfl) (fun cs h => by
    obtain ⟨_, _, rfl, h1, h⟩ := okLvW_cons h
    obtain rfl := okLvW_nil h
    obtain ⟨a, rfl, ha⟩ := okW_i h1
    exact ⟨a, rfl, ha⟩) h hz
theorem desc_of {cs : List Value} (h : okLvW [.i .i64, .i .i64, .b, .b, .b, .b, .b, .i .i64, .i .i64] cs = true) : ∃ d : DsD, cs = [.int .i64 d.kind, .int .i64 d.frame, .bool d.r, .bool d.w, .bool d.x, .bool d.af, .bool d.ng, .int .i64 d.soft, .int .i64 d.note] := by
  obtain ⟨_, _, rfl, h1, h⟩ := okLvW_cons h
  obtain ⟨_, _, rfl, h2, h⟩ := okLvW_cons h
  obtain ⟨_, _, rfl, h3, h⟩ := okLvW_cons h
  obtain ⟨_, _, rfl, h4, h⟩ := okLvW_cons h
  obtain ⟨_, _, rfl, h5, h⟩ := okLvW_cons h
  obtain ⟨_, _, rfl, h6, h⟩ := okLvW_cons h
  obtain ⟨_, _, rfl, h7, h⟩ := okLvW_cons h
  obtain ⟨_, _, rfl, h8, h⟩ := okLvW_cons h
  obtain ⟨_, _, rfl, h9, h⟩ := okLvW_cons h
  obtain rfl := okLvW_nil h
  obtain ⟨a1, rfl, _⟩ := okW_i h1
  obtain ⟨a2, rfl, _⟩ := okW_i h2
  obtain ⟨a3, rfl⟩ := okW_b h3
  obtain ⟨a4, rfl⟩ := okW_b h4
  obtain ⟨a5, rfl⟩ := okW_b h5
  obtain ⟨a6, rfl⟩ := okW_b h6
  obtain ⟨a7, rfl⟩ := okW_b h7
  obtain ⟨a8, rfl, _⟩ := okW_i h8
  obtain ⟨a9, rfl, _⟩ := okW_i h9
  exact ⟨⟨a1, a2, a3, a4, a5, a6, a7, a8, a9⟩, rfl⟩
theorem trod_cap {fuel : Nat} {t e : TypeId} {p : Option Addr} {n c : Nat} {x : DataW H × List MemPlace} (ht : Tryz.prog.underlying t = some (.slice e)) (h : DataW.trod enc Tryz.prog w base spare held fuel t [.slice p n c] = some x) : n ≤ c := by
  rcases Go.Deep.open_slice ht h with ⟨hc, _⟩ | ⟨a, len, cap, m, k, D, Pl, hc, hb, hl, hm, hmm, hxx, hx⟩
  · injection hc with hc
    injection hc with _ h1 h2
    omega
  · injection hc with hc
    injection hc with _ h1 h2
    omega
theorem open_entries {fuel : Nat} {cs : List Value} {x : DataW H × List MemPlace} (h : DataW.trod enc Tryz.prog w base spare held fuel 79 cs = some x) (hz : Szd Tryz.prog 79 x.1) : ∃ v, ∃ xs : List EnD, cs = [v] ∧ SlAt w v 14 (xs.map enV) ∧ (∀ a ∈ xs, True) ∧ xs.length ≤ reachBytes :=
  open_flatL (f := enV) (q := fun _ => True) (ks := [.i .i64, .i .i64, .i .i64, .b, .i .i64, .i .i64, .i .i64, .i .i64, .b, .b, .b, .b, .b, .i .i64]) Tryz.underlying79 (by kernel_rfl) (tb_ok.gsz (t := 51) (s := 14) rfl) (by decide) (by kernel_rfl) (fun cs hc => entry_of hc) h hz
theorem open_invals {fuel : Nat} {cs : List Value} {x : DataW H × List MemPlace} (h : DataW.trod enc Tryz.prog w base spare held fuel 80 cs = some x) (hz : Szd Tryz.prog 80 x.1) : ∃ v, ∃ xs : List IvD, cs = [v] ∧ SlAt w v 4 (xs.map ivV) ∧ (∀ a ∈ xs, True) ∧ xs.length ≤ reachBytes :=
  open_flatL (f := ivV) (q := fun _ => True) (ks := [.i .i64, .i .i64, .i .i64, .i .i64]) Tryz.underlying80 (by kernel_rfl) (tb_ok.gsz (t := 194) (s := 4) rfl) (by decide) (by kernel_rfl) (fun cs hc => inval_of hc) h hz
theorem open_tlb {fuel : Nat} {cs : List Value} {x : DataW H × List MemPlace} (h : DataW.trod enc Tryz.prog w base spare held fuel 82 cs = some x) (hz : Szd Tryz.prog 82 x.1) : ∃ t : TlD, cs = tlV t ∧ (SlAt w t.ev 14 (t.es.map enV) ∧ SlAt w t.dv 4 (t.ds.map ivV) ∧ t.es.length ≤ t.ec ∧ t.es.length ≤ reachBytes ∧ t.ds.length ≤ reachBytes) := by
  obtain ⟨hl, n, hf⟩ := trod_fields Tryz.underlying82 h hz
  rw [cellsOf_sz (show szOf Tryz.prog 82 = some 2 from tb_ok.gsz rfl)] at hl
  match cs, hl with
  | [c0, c1], _ =>
    have c1s : Tryz.prog.cellsOf 79 = 1 := by kernel_rfl
    have c2s : Tryz.prog.cellsOf 80 = 1 := by kernel_rfl
    obtain ⟨_, h0, z0⟩ := hf 0 _ rfl
    obtain ⟨_, h1, z1⟩ := hf 1 _ rfl
    simp only [List.getElem_toArray, List.getElem_cons_zero, List.getElem_cons_succ, c1s, c2s, List.drop_zero, List.drop_succ_cons, List.take_succ_cons, List.take_zero] at h0 h1 z0 z1
    obtain ⟨v0, es, e0, s0, _, l0⟩ := open_entries h0 z0
    obtain ⟨v1, ds, e1, s1, _, l1⟩ := open_invals h1 z1
    cases e0; cases e1
    obtain ⟨p0, k0, rfl, _, _⟩ := s0.opened
    obtain ⟨p1, k1, rfl, _, _⟩ := s1.opened
    exact ⟨⟨es, ds, p0, k0, p1, k1⟩, rfl, s0, s1, trod_cap Tryz.underlying79 h0, l0, l1⟩
theorem open_any {t e : TypeId} {fuel : Nat} {cs : List Value} {x : DataW H × List MemPlace} (ht : Tryz.prog.underlying t = some (.slice e)) (h : DataW.trod enc Tryz.prog w base spare held fuel t cs = some x) : ∃ p n c, cs = [.slice p n c] := by
  rcases Go.Deep.open_slice ht h with ⟨hc, _⟩ | ⟨a, len, cap, m, k, D, Pl, hc, _⟩
  · exact ⟨_, _, _, hc⟩
  · exact ⟨_, _, _, hc⟩
theorem open_regsL {fuel : Nat} {cs : List Value} {x : DataW H × List MemPlace} (h : DataW.trod enc Tryz.prog w base spare held fuel 27 cs = some x) (hz : Szd Tryz.prog 27 x.1) : ∃ v, ∃ xs : List RgD, cs = [v] ∧ SlAt w v 15 (xs.map rgV) ∧ (∀ a ∈ xs, a.Fits) ∧ xs.length ≤ reachBytes :=
  open_flatL (f := rgV) (q := RgD.Fits) (ks := [.i .u64, .i .u64, .i .u64, .i .u64, .i .u64, .i .u64, .i .u64, .i .u64, .i .u64, .i .u64, .i .u64, .i .u64, .i .u64, .i .u64, .i .u64]) Tryz.underlying27 (by kernel_rfl) (tb_ok.gsz (t := 78) (s := 15) rfl) (by decide) (by kernel_rfl) (fun cs hc => regs_of hc) h hz
theorem open_vcpus {fuel : Nat} {cs : List Value} {x : DataW H × List MemPlace} (h : DataW.trod enc Tryz.prog w base spare held fuel 109 cs = some x) (hz : Szd Tryz.prog 109 x.1) : ∃ v, ∃ xs : List VcD, cs = [v] ∧ SlAt w v 16 (xs.map vcV) ∧ (∀ a ∈ xs, a.r.Fits) ∧ xs.length ≤ reachBytes :=
  open_flatL (f := vcV) (q := fun c => c.r.Fits) (ks := [.i .u64, .i .u64, .i .u64, .i .u64, .i .u64, .i .u64, .i .u64, .i .u64, .i .u64, .i .u64, .i .u64, .i .u64, .i .u64, .i .u64, .i .u64, .i .i64]) Tryz.underlying109 (by kernel_rfl) (tb_ok.gsz (t := 131) (s := 16) rfl) (by decide) (by kernel_rfl) (fun cs hc => vcpu_of hc) h hz
/-- What is known of a machine as it lies. -/
def VmD.Lies (w : World) (m : VmD) : Prop := SlAt w m.fv 1 (m.fs.map inV) ∧ SlAt w m.rv 1 (m.fr.map inV) ∧ SlAt w m.vv 16 (m.vs.map vcV) ∧ (∀ c ∈ m.vs, c.r.Fits) ∧ m.fs.length ≤ reachBytes ∧ m.fr.length ≤ reachBytes ∧ m.vs.length ≤ reachBytes
theorem open_vm {fuel : Nat} {cs : List Value} {x : DataW H × List MemPlace} (h : DataW.trod enc Tryz.prog w base spare held fuel 111 cs = some x) (hz : Szd Tryz.prog 111 x.1) : ∃ m : VmD, cs = vmV m ∧ m.Lies w := by
  obtain ⟨hl, n, hf⟩ := trod_fields Tryz.underlying111 h hz
  rw [cellsOf_sz (show szOf Tryz.prog 111 = some 6 from tb_ok.gsz rfl)] at hl
  match cs, hl with
  | [c0, c1, c2, c3, c4, c5], _ =>
    have c1s : Tryz.prog.cellsOf 4 = 1 := by kernel_rfl
    have c2s : Tryz.prog.cellsOf 3 = 1 := by kernel_rfl
    have c3s : Tryz.prog.cellsOf 108 = 1 := by kernel_rfl
    have c4s : Tryz.prog.cellsOf 109 = 1 := by kernel_rfl
    obtain ⟨_, h0, _⟩ := hf 0 _ rfl
    obtain ⟨_, h1, _⟩ := hf 1 _ rfl
    obtain ⟨_, h2, _⟩ := hf 2 _ rfl
    obtain ⟨_, h3, z3⟩ := hf 3 _ rfl
    obtain ⟨_, h4, z4⟩ := hf 4 _ rfl
    obtain ⟨_, h5, z5⟩ := hf 5 _ rfl
    simp only [List.getElem_toArray, List.getElem_cons_zero, List.getElem_cons_succ, c1s, c2s, c3s, c4s, List.drop_zero, List.drop_succ_cons, List.take_succ_cons, List.take_zero] at h0 h1 h2 h3 h4 h5 z3 z4 z5
    obtain ⟨b0, e0⟩ := bool_of (trod_leaves 8 4 [.b] (by kernel_rfl) (by kernel_rfl) _ _ _ h0)
    obtain ⟨b1, e1⟩ := bool_of (trod_leaves 8 4 [.b] (by kernel_rfl) (by kernel_rfl) _ _ _ h1)
    obtain ⟨k2, e2, _⟩ := DataW.trod_int Tryz.underlying3 h2
    obtain ⟨v3, fs, e3, s3, _, l3⟩ := open_intsL h3 z3
    obtain ⟨v4, fr, e4, s4, _, l4⟩ := open_intsL h4 z4
    obtain ⟨v5, vs, e5, s5, o5, l5⟩ := open_vcpus h5 z5
    obtain ⟨p3, q3, rfl, _, _⟩ := s3.opened
    obtain ⟨p4, q4, rfl, _, _⟩ := s4.opened
    obtain ⟨p5, q5, rfl, _, _⟩ := s5.opened
    cases e0; cases e1; cases e2; cases e3; cases e4; cases e5
    exact ⟨⟨b0, b1, k2, fs, p3, q3, fr, p4, q4, vs, p5, q5⟩, rfl, s3, s4, s5, o5, l3, l4, l5⟩
theorem open_vms {fuel : Nat} {cs : List Value} {x : DataW H × List MemPlace} (h : DataW.trod enc Tryz.prog w base spare held fuel 26 cs = some x) (hz : Szd Tryz.prog 26 x.1) : ∃ v, ∃ ms : List VmD, cs = [v] ∧ VmAt w v ms ∧ (∀ m ∈ ms, m.Lies w) ∧ ms.length ≤ reachBytes := by
  obtain ⟨p, xs, cap, rfl, hl, hr⟩ := open_each (α := VmD) (R := fun cs m => cs = vmV m ∧ m.Lies w) Tryz.underlying26 (tb_ok.gsz (t := 111) (s := 6) rfl) (by decide) (by kernel_rfl) (fun n cs x hx hz => open_vm hx hz) h hz
  obtain ⟨h1, h2⟩ := slAt_each (f := vmV) (q := fun m => m.Lies w) hl hr
  exact ⟨_, xs, rfl, ⟨h1, fun m hm => (h2 m hm).1, fun m hm => (h2 m hm).2.1, fun m hm => (h2 m hm).2.2.1⟩, h2, hl⟩
end
end Go.Proofs.YtiaelhhmlbfkmaaGreat
