/- Layer 18 (part): a virtual processor run, by both. -/
import Derived.Test.YtjnndchkblnkgaaGreatPtC
namespace Go.Proofs.YtjnndchkblnkgaaGreat
open Go.RowKit
set_option linter.unusedVariables false
set_option linter.unusedSimpArgs false
set_option maxRecDepth 20000
attribute [local irreducible] Hy St Ops DH DHF
section
variable {P : PtD} {Y : Lay} {bx : Nat} {w : World}
/-- A call of the host's, handed to its own function. -/
theorem hostCallRun_e (h : OwnP P Y) (hN : HereN (Y.hd P bx 67) w) (cpu : Nat) (hc : cpu < P.on.length) (vm fr mid vc cc : Int) (hw : ClD.Wf ⟨8, vm, fr, mid, vc, cc⟩) : Fn Tryz.prog 30 [.pointer (some ⟨bx, 0, none⟩), .int .i64 (cpu : Int), clV ⟨8, vm, fr, mid, vc, cc⟩].toArray w ((Y.hd P bx 67).map (·.b)) (CallR bx 67 (P.runL cpu vm vc)) := by
  refine enterM _ hN Tryz.func30 ?_
  refine run ?_
  intro C
  refine runC ?_
  refine callM (Y.hd P bx 67) [⟨C, #[.int .i64 8, .int .i64 vm, .int .i64 fr, .int .i64 mid, .int .i64 vc, .int .i64 cc], 33⟩] (fun wc hG => run_e h hG.hereN cpu hc ⟨8, vm, fr, mid, vc, cc⟩ hw) (fun v hn hR => ?_) (by rw [hdY]; (refine perm_cnt fun a => ?_; simp only [cntB_app, cntB_cons, cntB_nil]; omega))
  refine runC ?_
  refine fin1 ?_
  exact hR.le (by (refine hpLe_cnt fun a => ?_; simp only [cntB_app, cntB_cons, cntB_nil]; omega))
theorem hostRun_e (h : OwnP P Y) (hN : HereN (Y.hd P bx 26) w) (cpu : Nat) (hc : cpu < P.on.length) (vm fr mid vc cc : Int) (hw : ClD.Wf ⟨8, vm, fr, mid, vc, cc⟩) : Fn Tryz.prog 31 [.pointer (some ⟨bx, 0, none⟩), .int .i64 (cpu : Int), clV ⟨8, vm, fr, mid, vc, cc⟩].toArray w ((Y.hd P bx 26).map (·.b)) (CallR bx 26 (P.runL cpu vm vc)) := by
  have hvm := hw.vm
  refine enterM _ hN Tryz.func31 ?_
  refine run ?_
  intro B
  refine run ?_
  refine callE (fun wc hG => names_e ⟨8, vm, fr, mid, vc, cc⟩ wc) ?_
  refine runC ?_
  have hbt : PtD.btw vm 1 4 = !(decide (vm < 1) || decide (4 < vm)) := by rw [Bool.eq_iff_iff]; simp [PtD.btw]
  refine st_cond _ rfl (fun hp => ?_) (fun hp => ?_)
  · refine run ?_
    refine fin1 ?_
    rw [Bool.true_and] at hp
    simp [CallR, PtD.runL, hbt, hp]
  rw [Bool.true_and] at hp
  have hb : PtD.btw vm 1 4 = true := by rw [hbt, hp]; rfl
  have hb' := hb
  simp only [PtD.btw, Bool.and_eq_true, decide_eq_true_eq] at hb'
  have hi : ix vm < 4 := ix_lt hb'
  obtain ⟨q, cap, ev⟩ := (h.vc _ hi).opened
  have n0 := h.g0 hi
  have n3 := h.g3 hi
  rw [ev, List.length_map] at n3
  have hz := h.gsz
  have g4 := h.n.g4
  refine runC ?_
  refine drawAll ?_
  refine runDG ?_
  refine runC ?_
  refine st_cond _ rfl (fun hl => ?_) (fun hl => ?_)
  · refine run ?_
    refine fin1 ?_
    simp at hl
    simp [CallR, PtD.runL, hb, hl]
  rw [Bool.true_and, Bool.not_eq_false'] at hl
  refine runC ?_
  refine drawN 8 ?_
  refine runD ?_
  rw [show (vm - 1).toNat = ix vm from rfl]
  refine runC ?_
  refine drawN 12 ?_
  refine runDG ?_
  refine runG ?_
  have hlen := (h.sm.vc (ix vm) (by omega)).1
  refine st_cond _ rfl (fun hv => ?_) (fun hv => ?_)
  · refine runC ?_
    refine fin1 ?_
    have e : PtD.btw vc 0 (((P.gs (ix vm)).vcpus.length : Int) - 1) = false := by
      simp at hv; simp [PtD.btw]; omega
    simp [CallR, PtD.runL, hb, hl, e]
  have hv' : 0 ≤ vc ∧ vc < ((P.gs (ix vm)).vcpus.length : Int) := by simp at hv; omega
  have hk : vc.toNat < (P.gs (ix vm)).vcpus.length := by omega
  have e1 : PtD.btw vc 0 (((P.gs (ix vm)).vcpus.length : Int) - 1) = true := by
    simp [PtD.btw]; omega
  obtain ⟨g, cap', cur, eg, eh, hn, hsz, hset⟩ := (h.vc _ hi).setI hk
  rw [ev, List.length_map] at eg
  cases eg
  obtain ⟨r, g1, g2⟩ := ghs_upd Y.G hi
  rw [eh] at g1
  refine st_le (⟨B, #[.int .i64 8, .int .i64 vm, .int .i64 fr, .int .i64 mid, .int .i64 vc, .int .i64 cc], 33⟩ :: ⟨g, cur, 3⟩ :: ⟨bx, #[Y.pv P, Y.gv P, Y.ov P], 26⟩ :: ⟨Y.ob, Y.oc, 64⟩ :: ⟨Y.pb, Y.pc, 55⟩ :: ⟨Y.gb, Y.gc, 62⟩ :: ((Y.G (ix vm)).hm ++ r)) (by (refine hpLe_cnt fun a => ?_; have := HpLe.cnt g1 a; simp only [cntB_app, cntB_cons, cntB_nil] at *; omega)) ?_
  refine runC ?_
  refine drawN 8 ?_
  refine runD ?_
  refine runC ?_

  refine st_cond _ rfl (fun hp2 => ?_) (fun hp2 => ?_)
  · refine runC ?_
    refine fin1 ?_
    simp at hp2
    simp [CallR, PtD.runL, hb, hl, e1, hp2]
  refine runC ?_

  refine drawN 7 ?_
  refine runD ?_
  refine runC ?_

  have hosz := h.osz
  refine drawN 11 ?_
  refine runD ?_
  refine runC ?_

  refine fin1 ?_
  have key : P.runL cpu vm vc = .ok ((P.setGs (ix vm) { P.gs (ix vm) with vcpus := (P.gs (ix vm)).vcpus.set vc.toNat (cpu : Int) }).setSt cpu ⟨vm, vc⟩) := by
    simp at hp2
    simp [PtD.runL, hb, hl, e1, hp2]
  rw [key]
  have hcpu : I64 (cpu : Int) := by have := h.sm.on; unfold I64; omega
  refine ⟨rfl, _, h.seatG hi hk hc (cpu : Int) hcpu ⟨vm, vc⟩ ⟨hw.vm, hw.vcpu⟩ (hset _), ?_⟩
  have g3 := g2 (Y.G (ix vm)).vv (Y.G (ix vm)).mv [⟨g, cur.setIfInBounds vc.toNat (.int .i64 cpu), 3⟩] (Y.G (ix vm)).hm
  rw [hdGS]
  simp only [putAt, stV]
  (refine hpLe_cnt fun a => ?_; have := HpLe.cnt g3 a; simp only [cntB_app, cntB_cons, cntB_nil] at *; omega)
theorem kindRun : KindOk 8 := by
  refine kind_host (fun P c cpu => P.runL cpu c.vm c.vcpu) ?_ rfl rfl rfl ?_ ?_
  · intro P c cpu e h
    dsimp only [PtD.runL] at h
    revert h
    cases PtD.btw c.vm 1 4 <;> cases (!(P.gs (ix c.vm)).live || !PtD.btw c.vcpu 0 (((P.gs (ix c.vm)).vcpus.length : Int) - 1)) <;> cases !decide ((P.gs (ix c.vm)).vcpus.getD c.vcpu.toNat 0 = -1) <;> (intro h; cases h; try decide)
  · rintro P Y bx w ⟨_, vm, fr, mid, vc, cc⟩ cpu rfl hw hm hc hv hO hN
    exact hostCallRun_e hO hN cpu hc vm fr mid vc cc hw
  · rintro P Y bx w ⟨_, vm, fr, mid, vc, cc⟩ cpu rfl hw hm hc hv hO hN
    exact hostRun_e hO hN cpu hc vm fr mid vc cc hw
end
end Go.Proofs.YtjnndchkblnkgaaGreat
