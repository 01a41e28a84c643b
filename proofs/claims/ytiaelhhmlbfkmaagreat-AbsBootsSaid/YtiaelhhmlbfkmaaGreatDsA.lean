/- Layer 3 (desc): descriptors, the small functions. -/
import Derived.Test.YtiaelhhmlbfkmaaGreatWdA
namespace Go.Proofs.YtiaelhhmlbfkmaaGreat
open Go.RowKit
set_option linter.unusedVariables false
set_option linter.unusedSimpArgs false
set_option maxRecDepth 20000
/-- A descriptor. -/
structure DsD where
  kind : Int
  frame : Int
  r : Bool
  w : Bool
  x : Bool
  af : Bool
  ng : Bool
  soft : Int
  note : Int
deriving Inhabited
abbrev dsC (d : DsD) : Array Value := #[.int .i64 d.kind, .int .i64 d.frame, .bool d.r, .bool d.w, .bool d.x, .bool d.af, .bool d.ng, .int .i64 d.soft, .int .i64 d.note]
abbrev dsV (d : DsD) : Value := .agg (dsC d)
def noDs : DsD := ⟨0, 0, false, false, false, false, false, 0, 0⟩
/-- How many bits of a page a table of a level leaves to those beneath. -/
def dbits (level : Nat) : Nat := 3 * (3 - level)
def coversN (level : Nat) : Nat := 1 <<< dbits level
def indexN (level page : Nat) : Nat := (page >>> dbits level) % 8
theorem coversN_eq {level : Nat} (h : level < 4) : coversN level = [512, 64, 8, 1].getD level 0 := by
  have : ∀ l, l < 4 → coversN l = [512, 64, 8, 1].getD l 0 := by decide
  exact this level h
attribute [local irreducible] Hy St Ops DH DHF
theorem dThere_e (stage level : Int) (w : World) : Fn Tryz.prog 248 [.agg #[.int .i64 stage, .int .i64 level]].toArray w [] (fun u _ => u = .bool ((decide (stage = 1) || decide (stage = 2)) && decide (0 ≤ level) && decide (level < 4))) := by
  refine enter Tryz.func248 ?_
  refine run ?_
  intro B
  refine runG ?_
  exact fin1 rfl
theorem dThereT_e (stage : Int) (hs : stage = 1 ∨ stage = 2) (level : Nat) (h : level < 4) (w : World) : Fn Tryz.prog 248 [.agg #[.int .i64 stage, .int .i64 (level : Int)]].toArray w [] (fun u _ => u = .bool true) := by
  refine Fn.mono (dThere_e stage level w) fun v hp e => ?_
  rw [e]
  have c1 : decide ((0 : Int) ≤ (level : Int)) = true := decide_eq_true (by omega)
  have c2 : decide ((level : Int) < 4) = true := decide_eq_true (by omega)
  rw [c1, c2]
  rcases hs with rfl | rfl <;> rfl
theorem dBits_e (stage : Int) (level : Nat) (h : level < 4) (w : World) : Fn Tryz.prog 252 [.agg #[.int .i64 stage, .int .i64 (level : Int)]].toArray w [] (fun u _ => u = .int .i64 (dbits level : Int)) := by
  refine enter Tryz.func252 ?_
  refine run ?_
  intro B
  refine run ?_
  refine fin1 ?_
  unfold dbits
  congr 1
  omega
theorem dbits_lt {level : Nat} (h : level < 4) : dbits level ≤ 9 ∧ coversN level ≤ 512 ∧ 1 ≤ coversN level := by
  have : ∀ l, l < 4 → dbits l ≤ 9 ∧ coversN l ≤ 512 ∧ 1 ≤ coversN l := by decide
  exact this level h
theorem dCovers_e (level : Nat) (h : level < 4) (w : World) : Fn Tryz.prog 167 [.int .i64 (level : Int)].toArray w [] (fun u _ => u = .tuple #[.int .i64 (coversN level : Int), .int .i64 0]) := by
  have h9 := dbits_lt h
  refine enter Tryz.func167 ?_
  refine run ?_
  intro B
  refine run ?_
  refine callE (fun wc hG => dThereT_e 1 (.inl rfl) level h wc) ?_
  refine runC ?_
  refine callE (fun wc hG => dBits_e 1 level h wc) ?_
  refine op1 (by rfl) (x_shlI rfl rfl 1 (dbits level) (by rfl) (by rfl) (by omega) (Nat.lt_of_le_of_lt h9.2.1 (by decide))) ?_
  refine run ?_
  exact fin2 rfl
theorem dIndex_e (level : Nat) (h : level < 4) (page : Nat) (hp : page ≤ 4095) (w : World) : Fn Tryz.prog 330 [.int .i64 (level : Int), .int .i64 (page : Int)].toArray w [] (fun u _ => u = .tuple #[.int .i64 (indexN level page : Int), .int .i64 0]) := by
  have h9 := dbits_lt h
  have c1 : decide ((page : Int) < 0) = false := decide_eq_false (by omega)
  have c2 : decide ((4095 : Int) < (page : Int)) = false := decide_eq_false (by omega)
  refine enter Tryz.func330 ?_
  refine run ?_
  intro B
  refine run ?_
  refine callE (fun wc hG => dThereT_e 1 (.inl rfl) level h wc) ?_
  refine runG ?_
  refine st_cond _ rfl (fun hq => absurd hq (by simp [c1, c2])) (fun _ => ?_)
  refine run ?_
  refine callE (fun wc hG => dBits_e 1 level h wc) ?_
  refine op1 (by rfl) (x_shrI rfl rfl page (dbits level) (by rfl) (by rfl) (by omega)) ?_
  refine op1 (by rfl) (x_remN rfl rfl (page >>> dbits level) 8 (by rfl) (by rfl) (by decide)) ?_
  refine run ?_
  exact fin2 rfl
theorem rCovers_e (level : Nat) (h : level < 4) (w : World) : Fn Tryz.prog 189 [.int .i64 (level : Int)].toArray w [] (fun u _ => u = .int .i64 (coversN level : Int)) := by
  have h9 := dbits_lt h
  have hn : nth ([.int .i64 512, .int .i64 64, .int .i64 8, .int .i64 1] : List Value) level = some (.int .i64 (coversN level : Int)) := by
    rcases level with _ | _ | _ | _ | l
    · rfl
    · rfl
    · rfl
    · rfl
    · omega
  refine enter Tryz.func189 ?_
  refine run ?_
  intro T
  refine run ?_
  exact fin1 rfl
theorem rIndex_e (level : Nat) (h : level < 4) (page : Nat) (hp : page ≤ 4095) (w : World) : Fn Tryz.prog 237 [.int .i64 (level : Int), .int .i64 (page : Int)].toArray w [] (fun u _ => u = .int .i64 (indexN level page : Int)) := by
  refine enter Tryz.func237 ?_
  refine run ?_
  have h9 := dbits_lt h
  have e : page / coversN level = page >>> dbits level := by rw [Nat.shiftRight_eq_div_pow, coversN, Nat.shiftLeft_eq, Nat.one_mul]
  refine callE (fun wc hG => rCovers_e level h wc) ?_
  refine op1 (by rfl) (x_quoN rfl rfl page (coversN level) (by rfl) (by rfl) (by omega) (by omega)) ?_
  refine op1 (by rfl) (x_remN rfl rfl (page / coversN level) 8 (by rfl) (by rfl) (by decide)) ?_
  rw [e]
  refine run ?_
  exact fin1 rfl
theorem getN_lt (v a n : Nat) (hn : n ≤ 62) : getN v a n < 4611686018427387904 := by
  unfold getN
  refine Nat.lt_of_le_of_lt Nat.and_le_right ?_
  have : ∀ n, n ≤ 62 → lowN n < 4611686018427387904 := by decide
  exact this n hn
theorem shr_lt64 {v a : Nat} (hv : v < 18446744073709551616) : v >>> a < 18446744073709551616 := Nat.lt_of_le_of_lt (by rw [Nat.shiftRight_eq_div_pow]; exact Nat.div_le_self _ _) hv
theorem dec1 {x : Nat} : decide ((x : Int) = 1) = decide (x = 1) := by
  rw [Bool.eq_iff_iff, decide_eq_true_eq, decide_eq_true_eq]; omega
theorem dPart_e (v a n : Nat) (hn : 1 ≤ n) (hn2 : n ≤ 62) (han : a + n ≤ 64) (hv : v < 18446744073709551616) (w : World) : Fn Tryz.prog 320 [.int .u64 (v : Int), .int .i64 (a : Int), .int .i64 (n : Int)].toArray w [] (fun u _ => u = .int .i64 (getN v a n : Int)) := by
  refine enter Tryz.func320 ?_
  refine run ?_
  refine callE (fun wc hG => wGet_e v a n hn han hv wc) ?_
  refine run ?_
  have hb := getN_lt v a n hn2
  refine op1 (by rfl) (x_convI tb_ok rfl rfl rfl (by omega) (by omega)) ?_
  refine run ?_
  exact fin1 rfl
theorem dOn_e (v a : Nat) (ha : a ≤ 63) (hv : v < 18446744073709551616) (B : Nat) (w : World) (hB : w.cell? ⟨B, 0, none⟩ = some (.int .u64 (v : Int))) : Fn Tryz.prog 319 [.int .i64 (a : Int), .pointer (some ⟨B, 0, none⟩)].toArray w [] (fun u _ => u = .bool (decide (getN v a 1 = 1))) := by
  refine enter Tryz.func319 ?_
  refine run ?_
  refine callE (fun wc hG => dPart_e v a 1 (by decide) (by decide) (by omega) hv wc) ?_
  refine run ?_
  refine fin1 ?_
  rw [dec1]
theorem rSet_e (v a : Nat) (ha : a ≤ 63) (hv : v < 18446744073709551616) (w : World) : Fn Tryz.prog 261 [.int .u64 (v : Int), .int .i64 (a : Int)].toArray w [] (fun u _ => u = .bool (decide (getN v a 1 = 1))) := by
  refine enter Tryz.func261 ?_
  refine run ?_
  refine op1 (by rfl) (x_shrN rfl rfl v a (by rfl) (by rfl) (by omega)) ?_
  refine op1 (by rfl) (x_andN rfl rfl (v >>> a) 1 (by rfl) (by rfl) (shr_lt64 hv) (by decide)) ?_
  refine run ?_
  refine fin1 ?_
  rw [← dec1]
  rfl
theorem rBit_e (a : Nat) (b : Bool) (w : World) : Fn Tryz.prog 311 [.int .i64 (a : Int), .bool b].toArray w [] (fun u _ => u = .agg #[.int .i64 (a : Int), .int .i64 1, .int .u64 (bif b then 1 else 0)]) := by
  refine enter Tryz.func311 ?_
  refine run ?_
  intro F
  refine run ?_
  cases b <;> simp only [cond_true, cond_false]
  · intro G
    refine runC ?_
    exact finA rfl
  · intro G
    refine runC ?_
    exact finA rfl
theorem dBit_e (a : Nat) (b : Bool) (w : World) : Fn Tryz.prog 251 [.int .i64 (a : Int), .bool b].toArray w [] (fun u _ => u = .agg #[.int .i64 (a : Int), .int .i64 1, .int .u64 (bif b then 1 else 0)]) := by
  refine enter Tryz.func251 ?_
  refine run ?_
  intro F
  refine run ?_
  cases b <;> simp only [cond_true, cond_false]
  · intro G
    refine runC ?_
    exact finA rfl
  · intro G
    refine runC ?_
    exact finA rfl
end Go.Proofs.YtiaelhhmlbfkmaaGreat
