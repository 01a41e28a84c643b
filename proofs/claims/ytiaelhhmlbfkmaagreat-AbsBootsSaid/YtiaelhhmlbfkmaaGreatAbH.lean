/- Layer 21 (abs): at first it may be; with a word changed it may not: in plain Lean. -/
import Derived.Test.YtiaelhhmlbfkmaaGreatAbG
import Derived.Test.YtiaelhhmlbfkmaaGreatBoB
namespace Go.Proofs.YtiaelhhmlbfkmaaGreat
open Go.RowKit
set_option linter.unusedVariables false
set_option linter.unusedSimpArgs false
set_option maxRecDepth 20000
section
variable {n : Nat} {w0 : World} {mu : List Nat} {l : Fm} {h0 hc : Hp} {all : Array Oper} {ivS ivE : Fm} {i d : Nat} {ds : List (Nat × Nat)} {r : List Nat} {Y : Fm → Hp → Prop} {ty : TypeId} {pos : String} {af : Array Edge}
/-- A guarded maker that is met. -/
theorem eoR_gt {P : Program} {hp : Hp} {lf : Fm} {dst : Option Nat} {op : Op} {R : RT} {j dj : Nat} {want b : Bool} (h : EoR P n w0 mu all lf hp ⟨dst, op, ty, pos, af, none⟩ R) (hw : wnt b want = true) (hj : (all[j]?).bind (·.dst) = some dj) (hb : look lf dj = some (.bool b)) (hdj : Nat.blt dj n = true) : EoR P n w0 mu all lf hp ⟨dst, op, ty, pos, af, some (j, want)⟩ R :=
  ⟨fun a hk => by
    have h2 := wanted_of (all := all) (o := ⟨dst, op, ty, pos, af, some (j, want)⟩) (c0 := true) hk rfl hj hb hdj
    rw [hw] at h2
    exact h2, h.2⟩
theorem cCallT {f : FuncId} {xs : List Operand} {vs : List Value} {tys : Array TypeId} {R : RT} {j dj : Nat} {want b : Bool} (hcl : ∀ w, Good w0 mu hc w → Fn Tryz.prog f vs.toArray w [] R) (hw : wnt b want = true) (h : ∀ v hn, R v hn → DCh Tryz.prog n w0 mu all ds l h0 ivS Y r ((i, v) :: ivE) (hn ++ hc)) (ho : all[i]? = some ⟨some d, .call { callee := .value (.func f), args := xs.toArray, argTypes := tys }, ty, pos, af, some (j, want)⟩ := by rfl) (hcal : mem calN f = true := by rfl) (hv : evs (depFm ds (ivE ++ ivS) af.toList ++ l) xs = some vs := by rfl)
    (hj : (all[j]?).bind (·.dst) = some dj := by rfl) (hb : look (depFm ds (ivE ++ ivS) af.toList ++ l) dj = some (.bool b) := by rfl) (hdj : Nat.blt dj n = true := by rfl) : DCh Tryz.prog n w0 mu all ds l h0 ivS Y (i :: r) ivE hc :=
  dc_e ho (eoR_gt (eo_call (calOk f hcal) hv hcl) hw hj hb hdj) h
/-- A guarded value among those that are known ahead. -/
theorem ds1g {hp : Hp} {t0 : Nat} {S : List Nat} {iv : Fm} {Z : Fm → Prop} {op : Op} {v : Value} {j dj : Nat} {want b : Bool} (hy : ∀ hx, Hy Tryz.prog n w0 mu (depFm ds iv af.toList ++ l) (hx ++ h0) ⟨some d, op, ty, pos, af, some (j, want)⟩ v) (hy2 : ∀ hx, Hy Tryz.prog n w0 mu (depFm ds iv af.toList ++ l) (hx ++ hp) ⟨some d, op, ty, pos, af, some (j, want)⟩ v) (h : DS Tryz.prog n w0 mu all ds l h0 hp t0 Z S ((i, gv (wnt b want) v) :: iv))
    (ho : all[i]? = some ⟨some d, op, ty, pos, af, some (j, want)⟩ := by rfl) (hj : (all[j]?).bind (·.dst) = some dj := by rfl) (hb : look (depFm ds iv af.toList ++ l) dj = some (.bool b) := by rfl) (hdj : Nat.blt dj n = true := by rfl) : DS Tryz.prog n w0 mu all ds l h0 hp t0 Z (i :: S) iv :=
  ⟨_, _, ho, fun hx => ⟨dj, true, b, v, hj, hb, hdj, fun _ _ => cond_P (P := fun H => Hy Tryz.prog n w0 mu (depFm ds iv af.toList ++ l) H ⟨some d, op, ty, pos, af, some (j, want)⟩ v) (hy2 hx) (hy hx), rfl⟩, h⟩
end
attribute [local irreducible] Hy St Ops DH DHF DE1 DE2 DE3 DS DCh DWF
/-- The words that there are at first. -/
def bootM (F : Nat) : List Nat := memF (F * 8) (putW F 64)
def bootT (F C : Nat) : Bool := ((List.range F).all fun f => decide ((pageO (getL (bootM F) 0 f)).own = (bif decide (f < 16) then -1 else 0)) && decide ((pageO (getL (bootM F) 0 f)).wit = -2)) && (bootL F C).may && hosL (bootM F) (bootL F C).pages
theorem bootT_0 : bootT 24 1 = true := by decide +kernel
theorem bootT_1 : bootT 32 1 = true := by decide +kernel
theorem bootT_2 : bootT 40 2 = true := by decide +kernel
theorem bootT_3 : bootT 48 3 = true := by decide +kernel
theorem bootT_all {C : Nat} (h1 : 1 ≤ C) (h3 : C ≤ 3) : bootT (24 + 8 * C) C = true := by
  have : C = 1 ∨ C = 2 ∨ C = 3 := by omega
  rcases this with rfl | rfl | rfl
  · exact bootT_1
  · exact bootT_2
  · exact bootT_3
theorem bootM_len (F : Nat) : (bootM F).length = F * 8 := memF_len _ _
theorem bootM_ok {F C : Nat} (hT : bootT F C = true) : absL (bootM F) C = bootL F C ∧ (bootL F C).may = true ∧ hosL (bootM F) (bootL F C).pages = true := by
  simp only [bootT, Bool.and_eq_true, List.all_eq_true, List.mem_range, decide_eq_true_eq] at hT
  obtain ⟨⟨hp, hm⟩, hh⟩ := hT
  refine ⟨?_, hm, hh⟩
  have e : (bootM F).length / 8 = F := by rw [bootM_len]; omega
  unfold absL bootL
  rw [e]
  congr 1
  refine List.map_congr_left fun f hf => ?_
  obtain ⟨h1, h2⟩ := hp f (List.mem_range.1 hf)
  generalize pageO (getL (bootM F) 0 f) = g at h1 h2
  obtain ⟨a, b⟩ := g
  dsimp only at h1 h2
  rw [h1, h2]
theorem hosL_word {ws : List Nat} {pages : List PgD} (h : hosL ws pages = true) {p : Nat} (hp : p < 88) : ∃ lv tb a, ws.getD p 0 = (firstD pages lv tb a).word 2 lv ∧ lv = (if p < 24 then p / 8 else 3) ∧ tb = (if p < 24 then 0 else p / 8 - 3) ∧ a = p % 8 := by
  refine ⟨_, _, _, ?_, rfl, rfl, rfl⟩
  have := hostL_at h (lv := if p < 24 then p / 8 else 3) (tb := if p < 24 then 0 else p / 8 - 3) (a := p % 8) (by split <;> omega) (by unfold hostN; split <;> split <;> omega) (by omega)
  unfold hostW at this
  rw [decide_eq_true_eq] at this
  rwa [show ((if p < 24 then p / 8 else 3) + (if p < 24 then 0 else p / 8 - 3)) * 8 + p % 8 = p by split <;> omega] at this
/-- Two memories whose host's tables say the same pages have the same words in them. -/
theorem hosL_same {ws ws' : List Nat} {pages : List PgD} (h : hosL ws pages = true) (h' : hosL ws' pages = true) {p : Nat} (hp : p < 88) : ws.getD p 0 = ws'.getD p 0 := by
  obtain ⟨lv, tb, a, e, e1, e2, e3⟩ := hosL_word h hp
  obtain ⟨lv', tb', a', e', e1', e2', e3'⟩ := hosL_word h' hp
  rw [e, e', e1, e2, e3, e1', e2', e3']
/-- A word changed. -/
def flipL (ws : List Nat) (p k : Nat) : List Nat := ws.set p (ws.getD p 0 ^^^ 2 ^ k)
theorem flip_ne (a k : Nat) : a ^^^ 2 ^ k ≠ a := by
  intro h
  have h2 := congrArg (fun n => n.testBit k) h
  simp [Nat.testBit_xor, Nat.testBit_two_pow_self] at h2
theorem flip_no {ws : List Nat} {C p k : Nat} (hp : p < 88) (hl : p < ws.length) (h : hosL ws (absL ws C).pages = true) (h' : hosL (flipL ws p k) (absL (flipL ws p k) C).pages = true) : (absL (flipL ws p k) C).pages ≠ (absL ws C).pages := by
  intro e
  rw [e] at h'
  have := hosL_same h h' hp
  unfold flipL at this
  rw [List.getD_eq_getElem?_getD (l := ws.set _ _), List.getElem?_set_self hl] at this
  exact flip_ne _ _ this.symm
theorem flip_len (ws : List Nat) (p k : Nat) : (flipL ws p k).length = ws.length := List.length_set
theorem flip_w64 {ws : List Nat} (h : W64 ws) (p : Nat) {k : Nat} (hk : k < 64) : W64 (flipL ws p k) := by
  intro a ha
  rcases List.mem_or_eq_of_mem_set ha with h1 | h1
  · exact h a h1
  · rw [h1]
    have h2 : ws.getD p 0 < 2 ^ 64 := by
      by_cases hp : p < ws.length
      · exact h _ (getD_mem hp)
      · rw [List.getD_eq_getElem?_getD, List.getElem?_eq_none (by omega)]; decide
    exact Nat.xor_lt_two_pow h2 (Nat.pow_lt_pow_right (by decide) hk)
theorem num21_e (n : Int) (w : World) : Fn Tryz.prog 17 [.int .i64 n].toArray w [] (fun u _ => u = .int .i64 n) := by
  refine enter Tryz.func17 ?_
  refine run ?_
  exact fin1 rfl
theorem bootM_w64 {w : World} {v a b c : Value} {ws : List Nat} {cs : List CpD} {vs : List VmD} {rs : List RgD} (h : HyAt w v a b c ws cs vs rs) : W64 ws := h.w64
theorem boot_m {F : Nat} (h1 : 24 ≤ F) (h2 : F ≤ 64) : memOk (bootM F).length = true ∧ 24 ≤ (bootM F).length / 8 := by
  rw [bootM_len]
  refine ⟨?_, by omega⟩
  simp only [memOk, PtD.btw, Bool.and_eq_true, decide_eq_true_eq]
  omega
theorem wakes21_e (w : World) : Fn Tryz.prog 23 [].toArray w [] (fun u _ => u = .bool true) := by
  obtain ⟨hm, hF⟩ := boot_m (F := 24) (by decide) (by decide)
  refine enter Tryz.func23 ?_
  refine run ?_
  refine callB (fun wc hG => rBoot_e 24 1 (by decide) (by decide) (by decide) (by decide) wc) ?_
  rintro _ hn ⟨p1, c1, p2, c2, p3, c3, p4, c4, rfl, hH⟩
  refine run ?_
  refine callB (fun wc hG => absPart_e (ws := bootM 24) (hH wc (hG.lie (fun e he => by simp [he]))) hF hm (by decide) (by decide)) ?_
  rintro _ hn2 ⟨a1, a2, a3, k1, k2, k3, m1, m2, m3, rfl, hP⟩
  rw [(bootM_ok bootT_0).1] at hP
  refine run ?_
  intro B
  refine drawC 6 8 [0, 1, 2, 3, 4] [5] (⟨B, #[.slice a1 m1 k1, .slice a2 m2 k2, .slice a3 m3 k3], 38⟩ :: hn2) ?_
  refine runZ ?_
  refine sCallA (fun wc hx hG => num21_e 0 wc) ?_
  refine runZ ?_
  refine ds1g (v := .agg #[.slice a1 m1 k1, .slice a2 m2 k2, .slice a3 m3 k3]) (fun hx => x_loadA (b := B) (off := 0) (cs := #[.slice a1 m1 k1, .slice a2 m2 k2, .slice a3 m3 k3]) (tb := 38) tb_ok rfl rfl rfl (List.mem_append_right _ mh) rfl rfl) (fun hx => x_loadA (b := B) (off := 0) (cs := #[.slice a1 m1 k1, .slice a2 m2 k2, .slice a3 m3 k3]) (tb := 38) tb_ok rfl rfl rfl (List.mem_append_right _ mh) rfl rfl) ?_
  refine runZ ?_
  refine cCallT (fun wc hG => bootR_e 24 1 (by decide) (by decide) (by decide) wc) rfl ?_
  rintro _ hn3 ⟨pv, gv, ov, rfl, hQ⟩
  refine dc_nil ?_
  refine opsC ?_
  refine runG ?_
  refine callEG (fun hg wc hG => eqPart_e (hP wc (hG.lie (fun e he => by simp [he]))) (hQ wc (hG.lie (fun e he => by simp [he])))) ?_
  refine runG ?_
  exact fin1 rfl
end Go.Proofs.YtiaelhhmlbfkmaaGreat
