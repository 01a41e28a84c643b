/- Layer 17: an ask opened. -/
import Derived.Test.YtcjbpdejlfomkaaTlL
import Derived.Test.YtcjbpdejlfomkaaPgJ
namespace Go.Proofs.Ytcjbpdejlfomkaa
open Go.RowKit
set_option linter.unusedVariables false
set_option linter.unusedSimpArgs false
set_option maxRecDepth 20000
theorem entry_of {cs : List Value} (h : okLvW [.i .i64, .i .i64, .i .i64, .b, .i .i64, .i .i64, .i .i64, .i .i64, .b, .b, .b, .b, .b, .i .i64] cs = true) : ∃ e : EnD, cs = enV e ∧ True := by
  obtain ⟨_, _, rfl, h0, r0⟩ := okLvW_cons h
  obtain ⟨_, _, rfl, h1, r1⟩ := okLvW_cons r0
  obtain ⟨_, _, rfl, h2, r2⟩ := okLvW_cons r1
  obtain ⟨_, _, rfl, h3, r3⟩ := okLvW_cons r2
  obtain ⟨_, _, rfl, h4, r4⟩ := okLvW_cons r3
  obtain ⟨_, _, rfl, h5, r5⟩ := okLvW_cons r4
  obtain ⟨_, _, rfl, h6, r6⟩ := okLvW_cons r5
  obtain ⟨_, _, rfl, h7, r7⟩ := okLvW_cons r6
  obtain ⟨_, _, rfl, h8, r8⟩ := okLvW_cons r7
  obtain ⟨_, _, rfl, h9, r9⟩ := okLvW_cons r8
  obtain ⟨_, _, rfl, h10, r10⟩ := okLvW_cons r9
  obtain ⟨_, _, rfl, h11, r11⟩ := okLvW_cons r10
  obtain ⟨_, _, rfl, h12, r12⟩ := okLvW_cons r11
  obtain ⟨_, _, rfl, h13, r13⟩ := okLvW_cons r12
  obtain ⟨a0, rfl, _⟩ := okW_i h0
  obtain ⟨a1, rfl, _⟩ := okW_i h1
  obtain ⟨a2, rfl, _⟩ := okW_i h2
  obtain ⟨a3, rfl⟩ := okW_b h3
  obtain ⟨a4, rfl, _⟩ := okW_i h4
  obtain ⟨a5, rfl, _⟩ := okW_i h5
  obtain ⟨a6, rfl, _⟩ := okW_i h6
  obtain ⟨a7, rfl, _⟩ := okW_i h7
  obtain ⟨a8, rfl⟩ := okW_b h8
  obtain ⟨a9, rfl⟩ := okW_b h9
  obtain ⟨a10, rfl⟩ := okW_b h10
  obtain ⟨a11, rfl⟩ := okW_b h11
  obtain ⟨a12, rfl⟩ := okW_b h12
  obtain ⟨a13, rfl, _⟩ := okW_i h13
  obtain rfl := okLvW_nil r13
  exact ⟨⟨a0, a1, a2, a3, a4, a5, a6, a7, a8, a9, a10, a11, a12, a13⟩, rfl, trivial⟩
theorem inval_of {cs : List Value} (h : okLvW [.i .i64, .i .i64, .i .i64, .i .i64] cs = true) : ∃ e : IvD, cs = ivV e ∧ True := by
  obtain ⟨_, _, rfl, h0, r0⟩ := okLvW_cons h
  obtain ⟨_, _, rfl, h1, r1⟩ := okLvW_cons r0
  obtain ⟨_, _, rfl, h2, r2⟩ := okLvW_cons r1
  obtain ⟨_, _, rfl, h3, r3⟩ := okLvW_cons r2
  obtain ⟨a0, rfl, _⟩ := okW_i h0
  obtain ⟨a1, rfl, _⟩ := okW_i h1
  obtain ⟨a2, rfl, _⟩ := okW_i h2
  obtain ⟨a3, rfl, _⟩ := okW_i h3
  obtain rfl := okLvW_nil r3
  exact ⟨⟨a0, a1, a2, a3⟩, rfl, trivial⟩
section
variable {H : Type} {enc : TypeId × Value → H} {w : World} {base : Nat} {spare : Nat → Bool} {held : Bool}
theorem trod_cap {fuel : Nat} {t e : TypeId} {p : Option Addr} {n c : Nat} {x : DataW H × List MemPlace} (ht : Try.prog.underlying t = some (.slice e)) (h : DataW.trod enc Try.prog w base spare held fuel t [.slice p n c] = some x) : n ≤ c := by
  rcases Go.Deep.open_slice ht h with ⟨hc, _⟩ | ⟨a, len, cap, m, k, D, Pl, hc, hb, hl, hm, hmm, hxx, hx⟩
  · injection hc with hc
    injection hc with _ h1 h2
    omega
  · injection hc with hc
    injection hc with _ h1 h2
    omega
theorem open_entries {fuel : Nat} {cs : List Value} {x : DataW H × List MemPlace} (h : DataW.trod enc Try.prog w base spare held fuel 45 cs = some x) (hz : Szd Try.prog 45 x.1) : ∃ v, ∃ xs : List EnD, cs = [v] ∧ SlAt w v 14 (xs.map enV) ∧ (∀ a ∈ xs, True) ∧ xs.length ≤ reachBytes :=
  open_flatL (f := enV) (q := fun _ => True) (ks := [.i .i64, .i .i64, .i .i64, .b, .i .i64, .i .i64, .i .i64, .i .i64, .b, .b, .b, .b, .b, .i .i64]) Try.underlying45 (by kernel_rfl) (tb_ok.gsz (t := 50) (s := 14) rfl) (by decide) (by kernel_rfl) (fun cs hc => entry_of hc) h hz
theorem open_invals {fuel : Nat} {cs : List Value} {x : DataW H × List MemPlace} (h : DataW.trod enc Try.prog w base spare held fuel 46 cs = some x) (hz : Szd Try.prog 46 x.1) : ∃ v, ∃ xs : List IvD, cs = [v] ∧ SlAt w v 4 (xs.map ivV) ∧ (∀ a ∈ xs, True) ∧ xs.length ≤ reachBytes :=
  open_flatL (f := ivV) (q := fun _ => True) (ks := [.i .i64, .i .i64, .i .i64, .i .i64]) Try.underlying46 (by kernel_rfl) (tb_ok.gsz (t := 115) (s := 4) rfl) (by decide) (by kernel_rfl) (fun cs hc => inval_of hc) h hz
theorem open_tlb {fuel : Nat} {cs : List Value} {x : DataW H × List MemPlace} (h : DataW.trod enc Try.prog w base spare held fuel 48 cs = some x) (hz : Szd Try.prog 48 x.1) : ∃ t : TlD, cs = tlV t ∧ (SlAt w t.ev 14 (t.es.map enV) ∧ SlAt w t.dv 4 (t.ds.map ivV) ∧ t.es.length ≤ t.ec ∧ t.es.length ≤ reachBytes ∧ t.ds.length ≤ reachBytes) := by
  obtain ⟨hl, n, hf⟩ := trod_fields Try.underlying48 h hz
  rw [cellsOf_sz (show szOf Try.prog 48 = some 2 from tb_ok.gsz rfl)] at hl
  match cs, hl with
  | [c0, c1], _ =>
    have c1s : Try.prog.cellsOf 45 = 1 := by kernel_rfl
    have c2s : Try.prog.cellsOf 46 = 1 := by kernel_rfl
    obtain ⟨_, h0, z0⟩ := hf 0 _ rfl
    obtain ⟨_, h1, z1⟩ := hf 1 _ rfl
    simp only [List.getElem_toArray, List.getElem_cons_zero, List.getElem_cons_succ, c1s, c2s, List.drop_zero, List.drop_succ_cons, List.take_succ_cons, List.take_zero] at h0 h1 z0 z1
    obtain ⟨v0, es, e0, s0, _, l0⟩ := open_entries h0 z0
    obtain ⟨v1, ds, e1, s1, _, l1⟩ := open_invals h1 z1
    cases e0; cases e1
    obtain ⟨p0, k0, rfl, _, _⟩ := s0.opened
    obtain ⟨p1, k1, rfl, _, _⟩ := s1.opened
    exact ⟨⟨es, ds, p0, k0, p1, k1⟩, rfl, s0, s1, trod_cap Try.underlying45 h0, l0, l1⟩
theorem open_tlbs {fuel : Nat} {cs : List Value} {x : DataW H × List MemPlace} (h : DataW.trod enc Try.prog w base spare held fuel 29 cs = some x) (hz : Szd Try.prog 29 x.1) : ∃ v, ∃ ts : List TlD, cs = [v] ∧ TlAt w v ts ∧ (∀ t ∈ ts, t.es.length ≤ t.ec ∧ t.es.length ≤ reachBytes ∧ t.ds.length ≤ reachBytes) ∧ ts.length ≤ reachBytes := by
  obtain ⟨p, xs, cap, rfl, hl, hr⟩ := open_each (α := TlD) (R := fun cs t => cs = tlV t ∧ (SlAt w t.ev 14 (t.es.map enV) ∧ SlAt w t.dv 4 (t.ds.map ivV) ∧ t.es.length ≤ t.ec ∧ t.es.length ≤ reachBytes ∧ t.ds.length ≤ reachBytes)) Try.underlying29 (tb_ok.gsz (t := 48) (s := 2) rfl) (by decide) (by kernel_rfl) (fun n cs x hx hz => open_tlb hx hz) h hz
  obtain ⟨h1, h2⟩ := slAt_each (f := tlV) (q := fun t => SlAt w t.ev 14 (t.es.map enV) ∧ SlAt w t.dv 4 (t.ds.map ivV) ∧ t.es.length ≤ t.ec ∧ t.es.length ≤ reachBytes ∧ t.ds.length ≤ reachBytes) hl hr
  exact ⟨_, xs, rfl, ⟨h1, fun t ht => (h2 t ht).1, fun t ht => (h2 t ht).2.1⟩, fun t ht => (h2 t ht).2.2, hl⟩
theorem open_ask17 {fuel : Nat} {cs : List Value} {x : DataW H × List MemPlace} (h : DataW.trod enc Try.prog w base spare held fuel 31 cs = some x) (hz : Szd Try.prog 31 x.1) : ∃ wv fv lv tv vv S ts vs, cs = [wv, .int .i64 (SkD.root S), fv, lv, tv, vv] ∧ AkAt w wv fv lv tv vv S ts vs := by
  obtain ⟨hl, n, hf⟩ := trod_fields Try.underlying31 h hz
  rw [cellsOf_sz (show szOf Try.prog 31 = some 6 from tb_ok.gsz rfl)] at hl
  match cs, hl with
  | [c0, c1, c2, c3, c4, c5], _ =>
    have c1s : Try.prog.cellsOf 28 = 4 := by kernel_rfl
    have c2s : Try.prog.cellsOf 29 = 1 := by kernel_rfl
    have c3s : Try.prog.cellsOf 25 = 1 := by kernel_rfl
    obtain ⟨_, h0, z0⟩ := hf 0 _ rfl
    obtain ⟨_, h1, z1⟩ := hf 1 _ rfl
    obtain ⟨_, h2, z2⟩ := hf 2 _ rfl
    simp only [List.getElem_toArray, List.getElem_cons_zero, List.getElem_cons_succ, c1s, c2s, c3s, List.drop_zero, List.drop_succ_cons, List.take_succ_cons, List.take_zero] at h0 h1 h2 z0 z1 z2
    obtain ⟨wv, fv, lv, S, e0, s0⟩ := open_script16 h0 z0
    obtain ⟨tv, ts, e1, s1, q1, l1⟩ := open_tlbs h1 z1
    obtain ⟨vv, vs, e2, s2, _, l2⟩ := open_intsL h2 z2
    cases e0; cases e1; cases e2
    exact ⟨_, _, _, _, _, S, ts, vs, rfl, s0, s1, s2, fun t ht => (q1 t ht).1, fun t ht => ⟨Nat.le_trans (q1 t ht).2.1 (by decide), Nat.le_trans (q1 t ht).2.2 (by decide)⟩, Nat.le_trans l1 (by decide), Nat.le_trans l2 (by decide)⟩
end
end Go.Proofs.Ytcjbpdejlfomkaa
