/- Arguments opened: words, numbers, descriptors, entries, TLBs, machines. -/
import Derived.Test.YtiggoglimlnmmaaLay1
import Derived.Test.YtiggoglimlnmmaaHyA
namespace Go.Proofs.Ytiggoglimlnmmaa
open Go.ChangeShapes Go.WideShapes Go.ChangeAt Go.RowKit
set_option linter.unusedVariables false
set_option linter.unusedSimpArgs false
set_option maxRecDepth 20000
theorem okW_u {v : Value} (h : okW (.i .u64) v = true) : ∃ a : Nat, v = .int .u64 (a : Int) ∧ a < 18446744073709551616 := by
  cases v <;> simp only [okW, Bool.and_eq_true, decide_eq_true_eq, Bool.false_eq_true] at h
  obtain ⟨rfl, h⟩ := h
  rename_i n
  simp only [Lit.wf, Bool.and_eq_true, decide_eq_true_eq] at h
  have h0 : 0 ≤ n := Int.le_trans (by decide) h.1
  have h1 : n ≤ 18446744073709551615 := Int.le_trans h.2 (by decide)
  exact ⟨n.toNat, by rw [Int.toNat_of_nonneg h0], by omega⟩
theorem entry_of {cs : List Value} (h : okLvW [.i .i64, .i .i64, .i .i64, .b, .i .i64, .i .i64, .i .i64, .i .i64, .b, .b, .b, .b, .b, .i .i64] cs = true) : ∃ e : EnD, cs = enV e ∧ True := by
  obtain ⟨_, _, rfl, h0, r0⟩ := okLvW_cons h
  obtain ⟨_, _, rfl, h1, r1⟩ := okLvW_cons r0
  obtain ⟨_, _, rfl, h2, r2⟩ := okLvW_cons r1
  obtain ⟨_, _, rfl, h3, r3⟩ := okLvW_cons r2
  obtain ⟨_, _, rfl, h4, r4⟩ := okLvW_cons r3
  obtain ⟨_, _, rfl, h5, r5⟩ := okLvW_cons r4
  obtain ⟨_, _, rfl, h6, r6⟩ := okLvW_cons r5
  obtain ⟨_, _, rfl, h7, r7⟩ := okLvW_cons r6
  obtain ⟨_, _, rfl, h8, r8⟩ := okLvW_cons r7
  obtain ⟨_, _, rfl, h9, r9⟩ := okLvW_cons r8
  obtain ⟨_, _, rfl, h10, r10⟩ := okLvW_cons r9
  obtain ⟨_, _, rfl, h11, r11⟩ := okLvW_cons r10
  obtain ⟨_, _, rfl, h12, r12⟩ := okLvW_cons r11
  obtain ⟨_, _, rfl, h13, r13⟩ := okLvW_cons r12
  obtain ⟨a0, rfl, _⟩ := okW_i h0
  obtain ⟨a1, rfl, _⟩ := okW_i h1
  obtain ⟨a2, rfl, _⟩ := okW_i h2
  obtain ⟨a3, rfl⟩ := okW_b h3
  obtain ⟨a4, rfl, _⟩ := okW_i h4
  obtain ⟨a5, rfl, _⟩ := okW_i h5
  obtain ⟨a6, rfl, _⟩ := okW_i h6
  obtain ⟨a7, rfl, _⟩ := okW_i h7
  obtain ⟨a8, rfl⟩ := okW_b h8
  obtain ⟨a9, rfl⟩ := okW_b h9
  obtain ⟨a10, rfl⟩ := okW_b h10
  obtain ⟨a11, rfl⟩ := okW_b h11
  obtain ⟨a12, rfl⟩ := okW_b h12
  obtain ⟨a13, rfl, _⟩ := okW_i h13
  obtain rfl := okLvW_nil r13
  exact ⟨⟨a0, a1, a2, a3, a4, a5, a6, a7, a8, a9, a10, a11, a12, a13⟩, rfl, trivial⟩
theorem inval_of {cs : List Value} (h : okLvW [.i .i64, .i .i64, .i .i64, .i .i64] cs = true) : ∃ e : IvD, cs = ivV e ∧ True := by
  obtain ⟨_, _, rfl, h0, r0⟩ := okLvW_cons h
  obtain ⟨_, _, rfl, h1, r1⟩ := okLvW_cons r0
  obtain ⟨_, _, rfl, h2, r2⟩ := okLvW_cons r1
  obtain ⟨_, _, rfl, h3, r3⟩ := okLvW_cons r2
  obtain ⟨a0, rfl, _⟩ := okW_i h0
  obtain ⟨a1, rfl, _⟩ := okW_i h1
  obtain ⟨a2, rfl, _⟩ := okW_i h2
  obtain ⟨a3, rfl, _⟩ := okW_i h3
  obtain rfl := okLvW_nil r3
  exact ⟨⟨a0, a1, a2, a3⟩, rfl, trivial⟩
/-- All are words. -/
def RgD.Fits (r : RgD) : Prop := r.x0 < 18446744073709551616 ∧ r.x1 < 18446744073709551616 ∧ r.x2 < 18446744073709551616 ∧ r.x3 < 18446744073709551616 ∧ r.x4 < 18446744073709551616 ∧ r.x5 < 18446744073709551616 ∧ r.x6 < 18446744073709551616 ∧ r.x7 < 18446744073709551616 ∧ r.pc < 18446744073709551616 ∧ r.ttbr < 18446744073709551616 ∧ r.sctlr < 18446744073709551616 ∧ r.vbar < 18446744073709551616 ∧ r.elr < 18446744073709551616 ∧ r.esr < 18446744073709551616 ∧ r.far < 18446744073709551616
theorem regs_of {cs : List Value} (h : okLvW [.i .u64, .i .u64, .i .u64, .i .u64, .i .u64, .i .u64, .i .u64, .i .u64, .i .u64, .i .u64, .i .u64, .i .u64, .i .u64, .i .u64, .i .u64] cs = true) : ∃ r : RgD, cs = rgV r ∧ r.Fits := by
  obtain ⟨_, _, rfl, h0, r0⟩ := okLvW_cons h
  obtain ⟨_, _, rfl, h1, r1⟩ := okLvW_cons r0
  obtain ⟨_, _, rfl, h2, r2⟩ := okLvW_cons r1
  obtain ⟨_, _, rfl, h3, r3⟩ := okLvW_cons r2
  obtain ⟨_, _, rfl, h4, r4⟩ := okLvW_cons r3
  obtain ⟨_, _, rfl, h5, r5⟩ := okLvW_cons r4
  obtain ⟨_, _, rfl, h6, r6⟩ := okLvW_cons r5
  obtain ⟨_, _, rfl, h7, r7⟩ := okLvW_cons r6
  obtain ⟨_, _, rfl, h8, r8⟩ := okLvW_cons r7
  obtain ⟨_, _, rfl, h9, r9⟩ := okLvW_cons r8
  obtain ⟨_, _, rfl, h10, r10⟩ := okLvW_cons r9
  obtain ⟨_, _, rfl, h11, r11⟩ := okLvW_cons r10
  obtain ⟨_, _, rfl, h12, r12⟩ := okLvW_cons r11
  obtain ⟨_, _, rfl, h13, r13⟩ := okLvW_cons r12
  obtain ⟨_, _, rfl, h14, r14⟩ := okLvW_cons r13
  obtain ⟨a0, rfl, b0⟩ := okW_u h0
  obtain ⟨a1, rfl, b1⟩ := okW_u h1
  obtain ⟨a2, rfl, b2⟩ := okW_u h2
  obtain ⟨a3, rfl, b3⟩ := okW_u h3
  obtain ⟨a4, rfl, b4⟩ := okW_u h4
  obtain ⟨a5, rfl, b5⟩ := okW_u h5
  obtain ⟨a6, rfl, b6⟩ := okW_u h6
  obtain ⟨a7, rfl, b7⟩ := okW_u h7
  obtain ⟨a8, rfl, b8⟩ := okW_u h8
  obtain ⟨a9, rfl, b9⟩ := okW_u h9
  obtain ⟨a10, rfl, b10⟩ := okW_u h10
  obtain ⟨a11, rfl, b11⟩ := okW_u h11
  obtain ⟨a12, rfl, b12⟩ := okW_u h12
  obtain ⟨a13, rfl, b13⟩ := okW_u h13
  obtain ⟨a14, rfl, b14⟩ := okW_u h14
  obtain rfl := okLvW_nil r14
  exact ⟨⟨a0, a1, a2, a3, a4, a5, a6, a7, a8, a9, a10, a11, a12, a13, a14⟩, rfl, b0, b1, b2, b3, b4, b5, b6, b7, b8, b9, b10, b11, b12, b13, b14⟩
theorem vcpu_of {cs : List Value} (h : okLvW [.i .u64, .i .u64, .i .u64, .i .u64, .i .u64, .i .u64, .i .u64, .i .u64, .i .u64, .i .u64, .i .u64, .i .u64, .i .u64, .i .u64, .i .u64, .i .i64] cs = true) : ∃ c : VcD, cs = vcV c ∧ c.r.Fits := by
  obtain ⟨_, _, rfl, h0, r0⟩ := okLvW_cons h
  obtain ⟨_, _, rfl, h1, r1⟩ := okLvW_cons r0
  obtain ⟨_, _, rfl, h2, r2⟩ := okLvW_cons r1
  obtain ⟨_, _, rfl, h3, r3⟩ := okLvW_cons r2
  obtain ⟨_, _, rfl, h4, r4⟩ := okLvW_cons r3
  obtain ⟨_, _, rfl, h5, r5⟩ := okLvW_cons r4
  obtain ⟨_, _, rfl, h6, r6⟩ := okLvW_cons r5
  obtain ⟨_, _, rfl, h7, r7⟩ := okLvW_cons r6
  obtain ⟨_, _, rfl, h8, r8⟩ := okLvW_cons r7
  obtain ⟨_, _, rfl, h9, r9⟩ := okLvW_cons r8
  obtain ⟨_, _, rfl, h10, r10⟩ := okLvW_cons r9
  obtain ⟨_, _, rfl, h11, r11⟩ := okLvW_cons r10
  obtain ⟨_, _, rfl, h12, r12⟩ := okLvW_cons r11
  obtain ⟨_, _, rfl, h13, r13⟩ := okLvW_cons r12
  obtain ⟨_, _, rfl, h14, r14⟩ := okLvW_cons r13
  obtain ⟨_, _, rfl, h15, r15⟩ := okLvW_cons r14
  obtain ⟨a0, rfl, b0⟩ := okW_u h0
  obtain ⟨a1, rfl, b1⟩ := okW_u h1
  obtain ⟨a2, rfl, b2⟩ := okW_u h2
  obtain ⟨a3, rfl, b3⟩ := okW_u h3
  obtain ⟨a4, rfl, b4⟩ := okW_u h4
  obtain ⟨a5, rfl, b5⟩ := okW_u h5
  obtain ⟨a6, rfl, b6⟩ := okW_u h6
  obtain ⟨a7, rfl, b7⟩ := okW_u h7
  obtain ⟨a8, rfl, b8⟩ := okW_u h8
  obtain ⟨a9, rfl, b9⟩ := okW_u h9
  obtain ⟨a10, rfl, b10⟩ := okW_u h10
  obtain ⟨a11, rfl, b11⟩ := okW_u h11
  obtain ⟨a12, rfl, b12⟩ := okW_u h12
  obtain ⟨a13, rfl, b13⟩ := okW_u h13
  obtain ⟨a14, rfl, b14⟩ := okW_u h14
  obtain ⟨a15, rfl, _⟩ := okW_i h15
  obtain rfl := okLvW_nil r15
  exact ⟨⟨⟨a0, a1, a2, a3, a4, a5, a6, a7, a8, a9, a10, a11, a12, a13, a14⟩, a15⟩, rfl, b0, b1, b2, b3, b4, b5, b6, b7, b8, b9, b10, b11, b12, b13, b14⟩
theorem pair_of {cs : List Value} (h : okLvW [.i .i64, .i .i64] cs = true) : ∃ p : Int × Int, cs = [.int .i64 p.1, .int .i64 p.2] ∧ True := by
  obtain ⟨a, b, rfl, _, _⟩ := ints2_of h
  exact ⟨(a, b), rfl, trivial⟩
theorem bool_of {cs : List Value} (h : okLvW [.b] cs = true) : ∃ b, cs = [.bool b] := by
  obtain ⟨_, _, rfl, h1, r⟩ := okLvW_cons h
  obtain ⟨a, rfl⟩ := okW_b h1
  obtain rfl := okLvW_nil r
  exact ⟨a, rfl⟩
section
variable {H : Type} {enc : TypeId × Value → H} {w : World} {base : Nat} {spare : Nat → Bool} {held : Bool}
theorem open_words {fuel : Nat} {cs : List Value} {x : DataW H × List MemPlace} (h : DataW.trod enc Try.prog w base spare held fuel 22 cs = some x) (hz : Szd Try.prog 22 x.1) : ∃ v, ∃ xs : List Nat, cs = [v] ∧ SlAt w v 1 (xs.map uV) ∧ (∀ a ∈ xs, a < 18446744073709551616) ∧ xs.length ≤ reachBytes :=
  open_flatL (ks := [.i .u64]) Try.underlying22 (by kernel_rfl) (by kernel_rfl) (by decide) (by kernel_rfl) (fun cs h => by
    obtain ⟨_, _, rfl, h1, h⟩ := okLvW_cons h
    obtain rfl := okLvW_nil h
    obtain ⟨a, rfl, ha⟩ := okW_u h1
    exact ⟨a, rfl, ha⟩) h hz
theorem open_intsL {fuel : Nat} {cs : List Value} {x : DataW H × List MemPlace} (h : DataW.trod enc Try.prog w base spare held fuel 25 cs = some x) (hz : Szd Try.prog 25 x.1) : ∃ v, ∃ xs : List Int, cs = [v] ∧ SlAt w v 1 (xs.map inV) ∧ (∀ a ∈ xs, I64 a) ∧ xs.length ≤ reachBytes :=
  open_flatL (ks := [.i .i64]) Try.underlying25 (by kernel_rfl) (by kernel_rfl) (by decide) (by kernel_rfl) (fun cs h => by
    obtain ⟨_, _, rfl, h1, h⟩ := okLvW_cons h
    obtain rfl := okLvW_nil h
    obtain ⟨a, rfl, ha⟩ := okW_i h1
    exact ⟨a, rfl, ha⟩) h hz
theorem desc_of {cs : List Value} (h : okLvW [.i .i64, .i .i64, .b, .b, .b, .b, .b, .i .i64, .i .i64] cs = true) : ∃ d : DsD, cs = [.int .i64 d.kind, .int .i64 d.frame, .bool d.r, .bool d.w, .bool d.x, .bool d.af, .bool d.ng, .int .i64 d.soft, .int .i64 d.note] := by
  obtain ⟨_, _, rfl, h1, h⟩ := okLvW_cons h
  obtain ⟨_, _, rfl, h2, h⟩ := okLvW_cons h
  obtain ⟨_, _, rfl, h3, h⟩ := okLvW_cons h
  obtain ⟨_, _, rfl, h4, h⟩ := okLvW_cons h
  obtain ⟨_, _, rfl, h5, h⟩ := okLvW_cons h
  obtain ⟨_, _, rfl, h6, h⟩ := okLvW_cons h
  obtain ⟨_, _, rfl, h7, h⟩ := okLvW_cons h
  obtain ⟨_, _, rfl, h8, h⟩ := okLvW_cons h
  obtain ⟨_, _, rfl, h9, h⟩ := okLvW_cons h
  obtain rfl := okLvW_nil h
  obtain ⟨a1, rfl, _⟩ := okW_i h1
  obtain ⟨a2, rfl, _⟩ := okW_i h2
  obtain ⟨a3, rfl⟩ := okW_b h3
  obtain ⟨a4, rfl⟩ := okW_b h4
  obtain ⟨a5, rfl⟩ := okW_b h5
  obtain ⟨a6, rfl⟩ := okW_b h6
  obtain ⟨a7, rfl⟩ := okW_b h7
  obtain ⟨a8, rfl, _⟩ := okW_i h8
  obtain ⟨a9, rfl, _⟩ := okW_i h9
  exact ⟨⟨a1, a2, a3, a4, a5, a6, a7, a8, a9⟩, rfl⟩
theorem trod_cap {fuel : Nat} {t e : TypeId} {p : Option Addr} {n c : Nat} {x : DataW H × List MemPlace} (ht : Try.prog.underlying t = some (.slice e)) (h : DataW.trod enc Try.prog w base spare held fuel t [.slice p n c] = some x) : n ≤ c := by
  rcases Go.Deep.open_slice ht h with ⟨hc, _⟩ | ⟨a, len, cap, m, k, D, Pl, hc, hb, hl, hm, hmm, hxx, hx⟩
  · injection hc with hc
    injection hc with _ h1 h2
    omega
  · injection hc with hc
    injection hc with _ h1 h2
    omega
theorem open_any {t e : TypeId} {fuel : Nat} {cs : List Value} {x : DataW H × List MemPlace} (ht : Try.prog.underlying t = some (.slice e)) (h : DataW.trod enc Try.prog w base spare held fuel t cs = some x) : ∃ p n c, cs = [.slice p n c] := by
  rcases Go.Deep.open_slice ht h with ⟨hc, _⟩ | ⟨a, len, cap, m, k, D, Pl, hc, _⟩
  · exact ⟨_, _, _, hc⟩
  · exact ⟨_, _, _, hc⟩
/-- What is known of a machine as it lies. -/
def VmD.Lies (w : World) (m : VmD) : Prop := SlAt w m.fv 1 (m.fs.map inV) ∧ SlAt w m.rv 1 (m.fr.map inV) ∧ SlAt w m.vv 16 (m.vs.map vcV) ∧ (∀ c ∈ m.vs, c.r.Fits) ∧ m.fs.length ≤ reachBytes ∧ m.fr.length ≤ reachBytes ∧ m.vs.length ≤ reachBytes
end
end Go.Proofs.Ytiggoglimlnmmaa
