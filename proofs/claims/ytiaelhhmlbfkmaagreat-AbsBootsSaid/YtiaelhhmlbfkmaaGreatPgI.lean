/- Layer 16: PgtExact, of scripts that map, unmap and split. -/
import Derived.Test.YtiaelhhmlbfkmaaGreatPgH
namespace Go.Proofs.YtiaelhhmlbfkmaaGreat
open Go.RowKit
set_option linter.unusedVariables false
set_option linter.unusedSimpArgs false
set_option maxRecDepth 20000
attribute [local irreducible] Hy St Ops DH DHF
/-- .. no block entered. -/
theorem runB {G R : Prop} (k : R) (h : RestP R → G := by (intro kLeft; (repeat (first | (with_reducible apply st_seq) | (with_reducible apply st_region) | (with_reducible apply nx_normal) | (with_reducible apply nx_ret) | (with_reducible apply nx_exit) | (with_reducible apply np_normal) | (with_reducible apply inb_normal) | (with_reducible apply inb_ret) | (with_reducible apply inb_here) | (with_reducible apply ops_nil) | (with_reducible apply st_ret) | (with_reducible apply st_skip) | (with_reducible apply st_exit) | ((with_reducible apply inb_past); rfl) | ((with_reducible apply op1); rfl; (first | exact hyF)) | ((with_reducible apply z_box); rfl; rfl; (exact clcel); intro blk) | ((with_reducible apply z_alloc tb_ok); rfl; rfl; (exact clcel); intro blk) | ((with_reducible apply z_store tb_ok); rfl; rfl; (exact clcel); rfl; rfl; (exact clperm); (exact clz1); (exact clz2); (exact clnorm)) | ((with_reducible apply z_bslice tb_ok); rfl; rfl; rfl; (exact clcel); rfl; rfl; rfl; rfl; (exact clbsl); intro blk) | ((with_reducible apply op1g); rfl; rfl; rfl; rfl; (intro hg1; (try simp only [hg1, gv_true, Bool.true_and]); (first | exact hyG | exact hyAbs hg1 rfl))) | ((with_reducible apply op1gg); rfl; rfl; rfl; rfl; (intro hg0 hg1; have hgC := hg0; (try simp only [Bool.and_eq_true] at hg0); (try simp only [hg0, hg1, gv_true, Bool.true_and, Bool.and_true, Bool.and_self]); (first | exact hyG | exact hyAbs hg1 rfl | exact hyAbsC hgC rfl))) | ((with_reducible apply op1gu); rfl; rfl; rfl; rfl))); (repeat revert blk); exact kLeft.get)) : G := h ⟨k⟩
/-- One call, of plain numbers: the answer, what a leaf was. -/
def actG (ws : List Nat) (root : Int) (free : List Int) (a : AcD) : TbR :=
  bif decide (a.dd = 4) then { (unmapG ws root a.mid a.n).1 with left := free } else bif decide (a.dd = 5) then splitG ws root free a.mid else mapG ws root free a.mid a.d
theorem Own.openedQ {e sz : Nat} {v : Value} {h : Hp} {xs : List Int} (hA : Own e sz v h (xs.map inV)) : ∃ p cap, v = .slice p xs.length cap ∧ xs.length ≤ cap ∧ (p = none ∨ ∃ b off, p = some ⟨b, off, none⟩) := by
  rcases hA.2 with ⟨h1, rfl, rfl⟩ | ⟨g, cap, cur, rfl, rfl, hrow⟩
  · have : xs = [] := by simpa using h1
    subst this
    exact ⟨_, _, rfl, Nat.le_refl _, .inl rfl⟩
  · have := hrow.le
    rw [List.length_map] at *
    exact ⟨_, _, rfl, this, .inr ⟨_, _, rfl⟩⟩
theorem cond_P {α : Type} {P : α → Prop} {c : Bool} {a b : α} (ha : P a) (hb : P b) : P (bif c then a else b) := by cases c <;> assumption
/-- An answer of words, no more than there were. -/
def TOk (n m : Nat) (T : TbR) : Prop := W64 T.ws ∧ T.ws.length ≤ n ∧ T.left.length ≤ m
theorem bad_ok (n m : Nat) (e : Int) : TOk n m (badM e) := ⟨fun x hx => (by cases hx), Nat.zero_le _, Nat.zero_le _⟩
theorem mapL_ok {ws : List Nat} (hw : W64 ws) (root : Int) (free : List Int) (page : Nat) (d : DsD) : TOk ws.length free.length (mapL ws root free page d) := by
  unfold mapL
  refine cond_P (bad_ok _ _ _) (cond_P (bad_ok _ _ _) (cond_P (bad_ok _ _ _) ⟨(W64.linkL _ _ _ hw).putL _ _ _, ?_, ?_⟩))
  · dsimp only; rw [putL_len, linkL_len]; exact Nat.le_refl _
  · dsimp only; rw [List.length_drop]; omega
theorem splitL_ok {ws : List Nat} (hw : W64 ws) (root : Int) (free : List Int) (page : Nat) : TOk ws.length free.length (splitL ws root free page) := by
  unfold splitL
  refine cond_P (bad_ok _ _ _) (cond_P (bad_ok _ _ _) (cond_P (bad_ok _ _ _) ⟨(hw.eightL _ _ _ _).putL _ _ _, ?_, ?_⟩))
  · dsimp only; rw [putL_len, eightL_len]; exact Nat.le_refl _
  · dsimp only; rw [List.length_drop]; omega
theorem unmapL_ok {ws : List Nat} (hw : W64 ws) (root : Int) (page : Nat) (note : Int) : TOk ws.length 0 (unmapL ws root page note).1 := by
  unfold unmapL
  refine cond_P (P := fun x : TbR × DsD => TOk ws.length 0 x.1) (bad_ok _ _ _) (cond_P (P := fun x : TbR × DsD => TOk ws.length 0 x.1) (bad_ok _ _ _) ⟨hw.putL _ _ _, ?_, Nat.le_refl _⟩)
  dsimp only; rw [putL_len]; exact Nat.le_refl _
theorem actG_ok {ws : List Nat} (hw : W64 ws) (root : Int) (free : List Int) (a : AcD) : TOk ws.length free.length (actG ws root free a) := by
  have hu : TOk ws.length 0 (unmapG ws root a.mid a.n).1 := cond_P (P := fun x : TbR × DsD => TOk ws.length 0 x.1) (unmapL_ok hw _ _ _) (bad_ok _ _ _)
  unfold actG
  refine cond_P ⟨hu.1, hu.2.1, Nat.le_refl _⟩ (cond_P ?_ ?_)
  · exact cond_P (splitL_ok hw _ _ _) (bad_ok _ _ _)
  · exact cond_P (mapL_ok hw _ _ _ _) (bad_ok _ _ _)
theorem eqDsR (d : DsD) : eqLeaves [.int .i64 d.kind, .int .i64 d.frame, .bool d.r, .bool d.w, .bool d.x, .bool d.af, .bool d.ng, .int .i64 d.soft, .int .i64 d.note] [.int .i64 d.kind, .int .i64 d.frame, .bool d.r, .bool d.w, .bool d.x, .bool d.af, .bool d.ng, .int .i64 d.soft, .int .i64 d.note] = true := by rw [eqDs]; simp
/-- Numbers that lie in some blocks. -/
def LieS (hs : Hp) (v : Value) (xs : List Int) : Prop := ∀ wc, Here hs wc → SlAt wc v 1 (xs.map inV)
structure AnS where
  xq : Option Addr
  xc : Nat
  wq : Option Addr
  wc : Nat
  lf : Value
  du : Value
  hx : Hp
  hw : Hp
  hz : Hp
structure ExS where
  i : Nat
  ws : List Nat
  fr : List Int
  mq : Option Addr
  mc : Nat
  fv : Value
  hm : Hp
  hf : Hp
end Go.Proofs.YtiaelhhmlbfkmaaGreat
