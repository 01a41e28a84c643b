/- Layer 18 (part): calls Share, Unshare, Donate: the reference's, and both. -/
import Derived.Test.YtjnndchkblnkgaaPtM
namespace Go.Proofs.Ytjnndchkblnkgaa
open Go.RowKit
set_option linter.unusedVariables false
set_option linter.unusedSimpArgs false
set_option maxRecDepth 20000
attribute [local irreducible] Hy St Ops DH DHF
theorem Own.openedC {e sz : Nat} {v : Value} {h : Hp} {xs : List (List Value)} (hA : Own e sz v h xs) : ∃ p cap, v = .slice p xs.length cap ∧ xs.length ≤ cap := by
  rcases hA.2 with ⟨rfl, rfl, rfl⟩ | ⟨g, cap, cur, rfl, rfl, hrow⟩
  · exact ⟨_, _, rfl, Nat.le_refl _⟩
  · exact ⟨_, _, rfl, hrow.le⟩
section
variable {P : PtD} {Y : Lay} {bx tx : Nat} {w : World}
theorem lendL_ne {P : PtD} {vm fr mid e : Int} {x : PgD} (h : P.lendL vm fr mid x = .error e) : e ≠ 0 := by
  unfold PtD.lendL at h
  revert h
  cases P.lives vm <;> cases decide ((P.pg fr.toNat).own = 0) <;> cases (decide ((P.pg fr.toNat).wit = -2) && !PtD.thereB (P.gs (ix vm)).maps mid) <;> (intro h; cases h; try decide)
theorem hostCallShare_e (h : OwnP P Y) (hm : P.may = true) (hN : HereN (Y.hd P bx 66) w) (cpu vm fr mid vc cc : Int) (hw : ClD.Wf ⟨1, vm, fr, mid, vc, cc⟩) : Fn Try.prog 25 [.pointer (some ⟨bx, 0, none⟩), .int .i64 cpu, clV ⟨1, vm, fr, mid, vc, cc⟩].toArray w ((Y.hd P bx 66).map (·.b)) (CallR bx 66 (P.shareL vm fr mid)) := by
  refine enterM _ hN Try.func25 ?_
  refine run ?_
  intro C
  refine runC ?_
  refine callM (Y.hd P bx 66) [⟨C, #[.int .i64 1, .int .i64 vm, .int .i64 fr, .int .i64 mid, .int .i64 vc, .int .i64 cc], 37⟩] (fun wc hG => share_e h hm hG.hereN ⟨1, vm, fr, mid, vc, cc⟩ hw) (fun v hn hR => ?_) (by rw [hdY]; (refine perm_cnt fun a => ?_; simp only [cntB_app, cntB_cons, cntB_nil]; omega))
  refine runC ?_
  refine fin1 ?_
  exact hR.le (by (refine hpLe_cnt fun a => ?_; simp only [cntB_app, cntB_cons, cntB_nil]; omega))
theorem hostCallUnshare_e (h : OwnP P Y) (hm : P.may = true) (hN : HereN (Y.hd P bx 66) w) (cpu vm fr mid vc cc : Int) (hw : ClD.Wf ⟨2, vm, fr, mid, vc, cc⟩) : Fn Try.prog 25 [.pointer (some ⟨bx, 0, none⟩), .int .i64 cpu, clV ⟨2, vm, fr, mid, vc, cc⟩].toArray w ((Y.hd P bx 66).map (·.b)) (CallR bx 66 (P.unshareL fr)) := by
  refine enterM _ hN Try.func25 ?_
  refine run ?_
  intro C
  refine runC ?_
  refine callM (Y.hd P bx 66) [⟨C, #[.int .i64 2, .int .i64 vm, .int .i64 fr, .int .i64 mid, .int .i64 vc, .int .i64 cc], 37⟩] (fun wc hG => unshare_e h hm hG.hereN ⟨2, vm, fr, mid, vc, cc⟩ hw) (fun v hn hR => ?_) (by rw [hdY]; (refine perm_cnt fun a => ?_; simp only [cntB_app, cntB_cons, cntB_nil]; omega))
  refine runC ?_
  refine fin1 ?_
  exact hR.le (by (refine hpLe_cnt fun a => ?_; simp only [cntB_app, cntB_cons, cntB_nil]; omega))
theorem hostCallDonate_e (h : OwnP P Y) (hm : P.may = true) (hN : HereN (Y.hd P bx 66) w) (cpu vm fr mid vc cc : Int) (hw : ClD.Wf ⟨3, vm, fr, mid, vc, cc⟩) : Fn Try.prog 25 [.pointer (some ⟨bx, 0, none⟩), .int .i64 cpu, clV ⟨3, vm, fr, mid, vc, cc⟩].toArray w ((Y.hd P bx 66).map (·.b)) (CallR bx 66 (P.donateL vm fr mid)) := by
  refine enterM _ hN Try.func25 ?_
  refine run ?_
  intro C
  refine runC ?_
  refine callM (Y.hd P bx 66) [⟨C, #[.int .i64 3, .int .i64 vm, .int .i64 fr, .int .i64 mid, .int .i64 vc, .int .i64 cc], 37⟩] (fun wc hG => donate_e h hm hG.hereN ⟨3, vm, fr, mid, vc, cc⟩ hw) (fun v hn hR => ?_) (by rw [hdY]; (refine perm_cnt fun a => ?_; simp only [cntB_app, cntB_cons, cntB_nil]; omega))
  refine runC ?_
  refine fin1 ?_
  exact hR.le (by (refine hpLe_cnt fun a => ?_; simp only [cntB_app, cntB_cons, cntB_nil]; omega))
end
end Go.Proofs.Ytjnndchkblnkgaa
