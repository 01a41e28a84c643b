/- Layers 9, 10 and 17 (tlb, inval, bbm): data; the document's. -/
import Derived.Test.YtiaelhhmlbfkmaaGreatExA
namespace Go.Proofs.YtiaelhhmlbfkmaaGreat
open Go.RowKit
set_option linter.unusedVariables false
set_option linter.unusedSimpArgs false
set_option maxRecDepth 20000
attribute [local irreducible] Hy St Ops DH DHF
/-- An entry. -/
structure EnD where
  kind : Int
  vmid : Int
  asid : Int
  all : Bool
  page : Int
  level : Int
  frame : Int
  mid : Int
  r : Bool
  w : Bool
  x : Bool
  af : Bool
  ng : Bool
  soft : Int
deriving DecidableEq
instance : Inhabited EnD := ⟨⟨0, 0, 0, false, 0, 0, 0, 0, false, false, false, false, false, 0⟩⟩
abbrev enV (e : EnD) : List Value := [.int .i64 e.kind, .int .i64 e.vmid, .int .i64 e.asid, .bool e.all, .int .i64 e.page, .int .i64 e.level, .int .i64 e.frame, .int .i64 e.mid, .bool e.r, .bool e.w, .bool e.x, .bool e.af, .bool e.ng, .int .i64 e.soft]
/-- What takes entries away. -/
structure IvD where
  kind : Int
  vmid : Int
  asid : Int
  page : Int
deriving DecidableEq
instance : Inhabited IvD := ⟨⟨0, 0, 0, 0⟩⟩
abbrev ivV (i : IvD) : List Value := [.int .i64 i.kind, .int .i64 i.vmid, .int .i64 i.asid, .int .i64 i.page]
def EnD.nums (e : EnD) : Bool := PtD.btw e.vmid 0 15 && PtD.btw e.asid 0 15 && PtD.btw e.page 0 4095 && PtD.btw e.frame 0 4095 && PtD.btw e.mid 0 4095 && decide (e.soft = 0)
def EnD.bare (e : EnD) : Bool := !e.r && !e.w && !e.x && !e.af && !e.ng && decide (e.soft = 0)
/-- A page without the bits that a table of a level tells itself. -/
def cutN (level page : Nat) : Nat := page - page % coversN level
def EnD.may (e : EnD) : Bool := e.nums &&
  bif decide (e.kind = 1) then decide (e.level = 0)
  else bif decide (e.kind = 2) then decide (e.asid = 0) && e.all && decide (e.level = 0) && decide (e.mid = 0) && !e.ng
  else bif decide (e.kind = 3) then PtD.btw e.level 1 3 && decide (cutN (e.level.toNat - 1) e.page.toNat = e.page.toNat) && decide (e.mid = 0) && e.bare
  else false
def IvD.may (i : IvD) : Bool := PtD.btw i.kind 1 6 && PtD.btw i.vmid 0 15 && PtD.btw i.asid 0 15 && PtD.btw i.page 0 4095
theorem tag_e (p : Int) (w : World) : Fn Tryz.prog 192 [.int .i64 p].toArray w [] (fun u _ => u = .bool (PtD.btw p 0 15)) := by
  refine enter Tryz.func192 ?_
  refine run ?_
  refine callE (fun wc hG => num_e p 15 wc) ?_
  refine run ?_
  exact fin1 rfl
theorem cut_e (level : Nat) (h : level < 4) (page : Nat) (hp : page ≤ 4095) (w : World) : Fn Tryz.prog 264 [.int .i64 (level : Int), .int .i64 (page : Int)].toArray w [] (fun u _ => u = .int .i64 (cutN level page : Int)) := by
  have h9 := dbits_lt h
  refine enter Tryz.func264 ?_
  refine run ?_
  refine callE (fun wc hG => rCovers_e level h wc) ?_
  refine op1 (by rfl) (x_remN rfl rfl page (coversN level) (by rfl) (by rfl) (by omega)) ?_
  refine run ?_
  refine fin1 ?_
  have hmod := Nat.mod_le page (coversN level)
  rw [show ((page : Int) - ((page % coversN level : Nat) : Int)) = ((cutN level page : Nat) : Int) by unfold cutN; omega, wrap_in (by omega) (by unfold cutN; omega)]
theorem above_e (level : Nat) (h0 : 1 ≤ level) (h : level < 4) (page : Nat) (hp : page ≤ 4095) (w : World) : Fn Tryz.prog 194 [.int .i64 (level : Int), .int .i64 (page : Int)].toArray w [] (fun u _ => u = .int .i64 (cutN (level - 1) page : Int)) := by
  refine enter Tryz.func194 ?_
  refine run ?_
  rw [show (level : Int) - 1 = ((level - 1 : Nat) : Int) by omega]
  refine callE (fun wc hG => cut_e (level - 1) (by omega) page hp wc) ?_
  refine run ?_
  exact fin1 rfl
theorem entry_e (e : EnD) (w : World) : Fn Tryz.prog 106 [.agg (enV e).toArray].toArray w [] (fun u _ => u = .bool e.may) := by
  refine enter Tryz.func106 ?_
  refine run ?_
  intro B
  refine runG ?_
  refine callE (fun wc hG => tag_e e.vmid wc) ?_
  refine runG ?_
  refine callEG (fun _ wc hG => tag_e e.asid wc) ?_
  refine runG ?_
  refine callEG (fun _ wc hG => rPage_e e.page wc) ?_
  refine runG ?_
  refine callEG (fun _ wc hG => rPage_e e.frame wc) ?_
  refine runG ?_
  refine callEG (fun _ wc hG => rPage_e e.mid wc) ?_
  refine runG ?_
  have hnn : (!PtD.btw e.vmid 0 15 || !PtD.btw e.asid 0 15 || !PtD.btw e.page 0 4095 || !PtD.btw e.frame 0 4095 || !PtD.btw e.mid 0 4095 || !decide (e.soft = 0)) = !e.nums := by
    unfold EnD.nums
    simp only [Bool.not_and]
  refine st_cond _ rfl (fun hn => ?_) (fun hn => ?_)
  · refine run ?_
    refine fin1 ?_
    rw [hnn] at hn
    have hn' : e.nums = false := by simpa using hn
    simp [EnD.may, hn']
  · rw [hnn] at hn
    have hn' : e.nums = true := by simpa using hn
    clear hnn
    have hb := hn'
    simp only [EnD.nums, Bool.and_eq_true, decide_eq_true_eq] at hb
    have hpz := btw_toNat hb.1.1.1.2
    refine run ?_
    refine st_cond _ rfl (fun hk => ?_) (fun hk => ?_)
    · refine run ?_
      refine fin1 ?_
      simp [EnD.may, hn', hk]
    refine run ?_
    refine st_cond _ rfl (fun hk2 => ?_) (fun hk2 => ?_)
    · refine runG ?_
      refine fin1 ?_
      simp [EnD.may, hn', hk, hk2]
    refine run ?_
    refine st_cond _ rfl (fun hk3 => ?_) (fun hk3 => ?_)
    · refine runG ?_
      refine drawN 29 ?_
      refine runDG ?_
      refine callDG (b := decide (1 ≤ e.level) && decide (e.level ≤ 3)) (want := true) (v := .int .i64 (cutN (e.level.toNat - 1) e.page.toNat : Int)) (fun hg wc hG => by
        simp [wnt] at hg
        have h5 := above_e e.level.toNat (by omega) (by omega) e.page.toNat hpz.2 wc
        rw [hpz.1, show ((e.level.toNat : Nat) : Int) = e.level by omega] at h5
        exact h5) ?_
      refine runDG ?_
      refine run ?_
      refine fin1 ?_
      have hz : decide (((cutN (e.level.toNat - 1) e.page.toNat : Nat) : Int) = e.page) = decide (cutN (e.level.toNat - 1) e.page.toNat = e.page.toNat) := by
        rw [Bool.eq_iff_iff, decide_eq_true_eq, decide_eq_true_eq]
        have := hpz.1
        omega
      rw [hz]
      simp only [EnD.may, hn', hk3, show decide (e.kind = 1) = false by simpa using hk, show decide (e.kind = 2) = false by simpa using hk2, cond_false, cond_true, Bool.true_and, PtD.btw, EnD.bare, eqLeaves, eqLeaf]
      cases e.r <;> cases e.w <;> cases e.x <;> cases e.af <;> cases e.ng <;> simp
    · refine run ?_
      refine fin1 ?_
      simp [EnD.may, hn', hk, hk2, hk3]
theorem inval_e (i : IvD) (w : World) : Fn Tryz.prog 108 [.agg (ivV i).toArray].toArray w [] (fun u _ => u = .bool i.may) := by
  refine enter Tryz.func108 ?_
  refine run ?_
  intro B
  refine runG ?_
  refine callEG (fun _ wc hG => tag_e i.vmid wc) ?_
  refine runG ?_
  refine callEG (fun _ wc hG => tag_e i.asid wc) ?_
  refine runG ?_
  refine callEG (fun _ wc hG => rPage_e i.page wc) ?_
  refine runG ?_
  refine fin1 ?_
  simp [IvD.may, PtD.btw, Bool.and_assoc]
end Go.Proofs.YtiaelhhmlbfkmaaGreat
