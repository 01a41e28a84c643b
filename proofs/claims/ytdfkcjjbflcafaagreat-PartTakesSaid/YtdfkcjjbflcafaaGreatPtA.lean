/- Layer 18 (part): the ways of a call of a virtual processor more. -/
import Derived.Test.YtdfkcjjbflcafaaGreatPartZ
namespace Go.Proofs.YtdfkcjjbflcafaaGreat
open Go.RowKit
set_option linter.unusedVariables false
set_option linter.unusedSimpArgs false
set_option maxRecDepth 20000
attribute [local irreducible] Hy St Ops DH DHF
theorem CallR.le {bx tx : Nat} {r : Except Int PtD} {v : Value} {hn hn' : Hp} (h : CallR bx tx r v hn) (hl : HpLe hn hn') : CallR bx tx r v hn' := by
  cases r with
  | error e => exact h
  | ok P => obtain ⟨e, Y, hO, hle⟩ := h; exact ⟨e, Y, hO, hpLe_cnt fun a => Nat.le_trans (hle.cnt a) (hl.cnt a)⟩
theorem may_seat {P : PtD} (hm : P.may = true) {cpu : Nat} (hc : cpu < P.on.length) (hv : (P.st cpu).vm ≠ 0) : 1 ≤ (P.st cpu).vm ∧ (P.st cpu).vm ≤ 4 ∧ (P.gs (ix (P.st cpu).vm)).live = true ∧ 0 ≤ (P.st cpu).cpu ∧ (P.st cpu).cpu.toNat < (P.gs (ix (P.st cpu).vm)).vcpus.length ∧ (P.gs (ix (P.st cpu).vm)).vcpus.getD (P.st cpu).cpu.toNat 0 = (cpu : Int) := by
  have h := (PtD.may_ok.1 hm).seat cpu hc
  simp only [PtD.seated, hv, decide_false, cond_false, PtD.lives, PtD.btw, Bool.and_eq_true, decide_eq_true_eq] at h
  obtain ⟨⟨⟨⟨h1, h2⟩, h3⟩, h4, h5⟩, h6⟩ := h
  exact ⟨h1, h2, h3, h4, by unfold ix; omega, h6⟩
section
variable {P : PtD} {Y : Lay} {bx : Nat} {w : World}
/-- A call of the host's, handed to its own function. -/
theorem hostCallVcpu_e (h : OwnP P Y) (hN : HereN (Y.hd P bx 54) w) (cpu vm fr mid vc cc : Int) : Fn Tryz.prog 27 [.pointer (some ⟨bx, 0, none⟩), .int .i64 cpu, clV ⟨7, vm, fr, mid, vc, cc⟩].toArray w ((Y.hd P bx 54).map (·.b)) (CallR bx 54 (P.moreL vm)) := by
  refine enterM _ hN Tryz.func27 ?_
  refine run ?_
  intro C
  refine runC ?_
  refine callM (Y.hd P bx 54) [⟨C, #[.int .i64 7, .int .i64 vm, .int .i64 fr, .int .i64 mid, .int .i64 vc, .int .i64 cc], 33⟩] (fun wc hG => more_e h hG.hereN ⟨7, vm, fr, mid, vc, cc⟩) (fun v hn hR => ?_) (by rw [hdY]; (refine perm_cnt fun a => ?_; simp only [cntB_app, cntB_cons, cntB_nil]; omega))
  refine runC ?_
  refine fin1 ?_
  exact hR.le (by (refine hpLe_cnt fun a => ?_; simp only [cntB_app, cntB_cons, cntB_nil]; omega))
/-- A call of a guest's that is none. -/
theorem guestCallBad_e (h : OwnP P Y) (hN : HereN (Y.hd P bx 54) w) (k vm fr mid vc cc : Int) (cpu : Nat) (hc : cpu < P.on.length) (h10 : decide (k = 10) = false) (h11 : decide (k = 11) = false) (h9 : decide (k = 9) = false) : Fn Tryz.prog 26 [.pointer (some ⟨bx, 0, none⟩), .int .i64 (cpu : Int), clV ⟨k, vm, fr, mid, vc, cc⟩].toArray w ((Y.hd P bx 54).map (·.b)) (CallR bx 54 (.error 9)) := by
  have hs0 := h.s0 hc
  refine enterM _ hN Tryz.func26 ?_
  refine run ?_
  intro C
  refine runC ?_
  refine st_cond _ rfl (fun hp => by rw [h10] at hp; cases hp) (fun _ => ?_)
  refine runC ?_
  refine st_cond _ rfl (fun hp => by rw [h11] at hp; cases hp) (fun _ => ?_)
  refine runC ?_
  refine st_cond _ rfl (fun hp => by rw [h9] at hp; cases hp) (fun _ => ?_)
  refine runC ?_
  refine fin1 ?_
  rfl
/-- The reference's. -/
theorem ownBad_e (h : OwnP P Y) (hN : HereN (Y.hd P bx 26) w) (k vm fr mid vc cc : Int) (cpu : Nat) (hc : cpu < P.on.length) (hv : 1 ≤ (P.st cpu).vm ∧ (P.st cpu).vm ≤ 4) (h10 : decide (k = 10) = false) (h11 : decide (k = 11) = false) (h9 : decide (k = 9) = false) : Fn Tryz.prog 34 [.pointer (some ⟨bx, 0, none⟩), .int .i64 (cpu : Int), clV ⟨k, vm, fr, mid, vc, cc⟩].toArray w ((Y.hd P bx 26).map (·.b)) (CallR bx 26 (.error 9)) := by
  have hs0 := h.s0 hc
  have hs1 := h.s1 hc
  have hrow := h.sRow hc
  have g4 := h.n.g4
  refine enterM _ hN Tryz.func34 ?_
  refine run ?_
  intro C
  refine runC ?_
  intro S
  refine runC ?_
  refine drawN 8 ?_
  refine runD ?_
  refine runC ?_
  refine st_cond _ rfl (fun hp => by rw [h9] at hp; cases hp) (fun _ => ?_)
  refine runC ?_
  refine st_cond _ rfl (fun hp => by rw [h10] at hp; cases hp) (fun _ => ?_)
  refine runC ?_
  refine st_cond _ rfl (fun hp => by rw [h11] at hp; cases hp) (fun _ => ?_)
  refine runC ?_
  refine fin1 ?_
  rfl
/-- A kind of call, out of its parts. -/
def KindOk (K : Int) : Prop := ∀ (P : PtD) (cpu : Nat) (c : ClD), c.kind = K → c.Wf → cpu < P.on.length → P.Small 1000 → ∃ r : Except Int PtD, (∀ w pv gv ov, PartG w pv gv ov P → Fn Tryz.prog 16 [.agg #[pv, gv, ov], .int .i64 (cpu : Int), clV c].toArray w [] (DoR (bif P.may then r else .error 1))) ∧
  (P.may = true → ∀ w pv gv ov, PartG w pv gv ov P → Fn Tryz.prog 18 [.agg #[pv, gv, ov], .int .i64 (cpu : Int), clV c].toArray w [] (DoR r))
/-- A kind that is a host's alone. -/
theorem kind_host {K : Int} (L : PtD → ClD → Nat → Except Int PtD) (hne : ∀ P c cpu e, L P c cpu = .error e → e ≠ 0) (h10 : decide (K = 10) = false) (h11 : decide (K = 11) = false) (h9 : decide (K = 9) = false)
    (hA : ∀ (P : PtD) (Y : Lay) (bx : Nat) (w : World) (c : ClD) (cpu : Nat), c.kind = K → c.Wf → P.may = true → cpu < P.on.length → (P.st cpu).vm = 0 → OwnP P Y → HereN (Y.hd P bx 54) w → Fn Tryz.prog 27 [.pointer (some ⟨bx, 0, none⟩), .int .i64 (cpu : Int), clV c].toArray w ((Y.hd P bx 54).map (·.b)) (CallR bx 54 (L P c cpu)))
    (hB : ∀ (P : PtD) (Y : Lay) (bx : Nat) (w : World) (c : ClD) (cpu : Nat), c.kind = K → c.Wf → P.may = true → cpu < P.on.length → (P.st cpu).vm = 0 → OwnP P Y → HereN (Y.hd P bx 26) w → Fn Tryz.prog 33 [.pointer (some ⟨bx, 0, none⟩), .int .i64 (cpu : Int), clV c].toArray w ((Y.hd P bx 26).map (·.b)) (CallR bx 26 (L P c cpu))) : KindOk K := by
  intro P cpu c hk hw hc hs
  subst hk
  by_cases hv : (P.st cpu).vm = 0
  · refine ⟨L P c cpu, fun w pv gv ov hp => ?_, fun hm w pv gv ov hp => ?_⟩
    · exact partDo_e hp hs cpu hc c _ (hne P c cpu) (fun hm _ Y bx w hO hN => hA P Y bx w c cpu rfl hw hm hc hv hO hN) (fun _ hn => absurd hv hn)
    · exact refDo_e hp hs hm cpu hc c _ (hne P c cpu) (fun _ Y bx w hO hN => hB P Y bx w c cpu rfl hw hm hc hv hO hN) (fun hn => absurd hv hn)
  · refine ⟨.error 9, fun w pv gv ov hp => ?_, fun hm w pv gv ov hp => ?_⟩
    · exact partDo_e hp hs cpu hc c _ (fun e he => by cases he; decide) (fun _ hn => absurd hn hv) (fun hm _ Y bx w hO hN => guestCallBad_e hO hN c.kind c.vm c.frame c.mid c.vcpu c.ccpu cpu hc h10 h11 h9)
    · exact refDo_e hp hs hm cpu hc c _ (fun e he => by cases he; decide) (fun hn => absurd hn hv) (fun _ Y bx w hO hN => ownBad_e hO hN c.kind c.vm c.frame c.mid c.vcpu c.ccpu cpu hc (by have := may_seat hm hc hv; exact ⟨this.1, this.2.1⟩) h10 h11 h9)
theorem kindVcpu : KindOk 7 := by
  refine kind_host (fun P c _ => P.moreL c.vm) ?_ rfl rfl rfl ?_ ?_
  · intro P c cpu e h
    dsimp only [PtD.moreL] at h
    revert h
    cases PtD.btw c.vm 1 4 <;> cases (P.gs (ix c.vm)).live <;> cases decide (2 ≤ (P.gs (ix c.vm)).vcpus.length) <;> (intro h; cases h; try decide)
  · rintro P Y bx w ⟨_, vm, fr, mid, vc, cc⟩ cpu rfl hw hm hc hv hO hN
    exact hostCallVcpu_e hO hN cpu vm fr mid vc cc
  · rintro P Y bx w ⟨_, vm, fr, mid, vc, cc⟩ cpu rfl hw hm hc hv hO hN
    exact hostVcpu_e hO hN cpu vm fr mid vc cc hw.vm
end
end Go.Proofs.YtdfkcjjbflcafaaGreat
