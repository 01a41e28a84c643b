/- Layer 18 (part): calls of one kind, whatever it is. -/
import Derived.Test.YtdfkcjjbflcafaaGreatPtA
import Derived.Test.YtdfkcjjbflcafaaGreatPartS
namespace Go.Proofs.YtdfkcjjbflcafaaGreat
open Go.RowKit
set_option linter.unusedVariables false
set_option linter.unusedSimpArgs false
set_option maxRecDepth 20000
attribute [local irreducible] Hy St Ops DH DHF
theorem rangeAt_sub {w : World} {b o k n : Nat} {vs us : List Value} (h : w.rangeAt b o vs) (hu : (vs.drop k).take n = us) : w.rangeAt b (o + k) us := by
  intro j u hj
  subst hu
  rw [List.getElem?_take] at hj
  split at hj
  · rw [List.getElem?_drop] at hj
    rw [Nat.add_assoc]
    exact h (k + j) u hj
  · cases hj
theorem ScrG.good {w w' : World} {hp : Hp} {v : Value} {P : PtD} {A : List ActD} (h : ScrG w v P A) (hG : Good w [] hp w') : ScrG w' v P A := by
  obtain ⟨⟨pv, gv, ov, lv, e, hp, hl⟩, hwf⟩ := h
  exact ⟨⟨pv, gv, ov, lv, e, hp.good hG, hl.good hG⟩, hwf⟩
set_option maxHeartbeats 4000000 in
theorem only_e {w : World} {v : Value} {P : PtD} {A : List ActD} (h : ScrG w v P A) (K : Int) (hK : KindOk K) : Fn Tryz.prog 14 [v, .int .i64 K].toArray w [] (fun u _ => u = .bool true) := by
  obtain ⟨⟨pv, gv, ov, lv, rfl, hp, hl⟩, hwf⟩ := h
  obtain ⟨p, pc, g, gc, o, oc, rfl, rfl, rfl, hl1, hl2, hl3⟩ := hp.slices
  obtain ⟨a, ac, rfl, hane, hal⟩ := hl.opened
  refine enter Tryz.func14 ?_
  refine run ?_
  intro B
  refine run ?_
  refine callV (fun wc hG => heavy_e rfl (hp.good hG)) ?_
  rintro _ ⟨hv, rfl, hsm⟩
  refine run ?_
  refine st_cond _ rfl (fun hc => ?_) (fun hc => ?_)
  · refine run ?_
    exact fin1 rfl
  obtain ⟨hs, ha5⟩ := hsm hc
  refine run ?_
  refine loopS (σ := Nat) (fun k => [(5, .int .i64 (k : Int))]) (fun s => [⟨B, #[.slice p P.pages.length pc, .slice g P.guests.length gc, .slice o P.on.length oc, .slice a A.length ac], 29⟩]) (fun k => k ≤ A.length) (fun k => A.length - k) 0 (by omega) ?_
  rintro k m hm hk
  refine runG ?_
  refine st_cond _ rfl (fun hc2 => ?_) (fun hc2 => ?_)
  · simp only [Bool.and_eq_true, decide_eq_true_eq] at hc2
    obtain ⟨b, of, rfl⟩ := hane (by intro e; rw [e] at hc2; simp at hc2; omega)
    have hr := hl.row (k := k) (by omega)
    simp only [actV] at hr
    have hx : (A.getD k default).Wf := by
      refine hwf _ ?_
      rw [List.getD_eq_getElem?_getD, List.getElem?_eq_getElem (by omega)]
      simp
    generalize A.getD k default = x at hr hx
    have hcall : w.rangeAt b (of + k * 8 + 1) [.int .i64 x.kind, .int .i64 x.vm, .int .i64 x.frame, .int .i64 x.mid, .int .i64 x.vcpu, .int .i64 x.ccpu] := rangeAt_sub (k := 1) (n := 6) hr rfl
    refine run ?_
    intro C
    refine run ?_
    refine loopS (σ := Nat) (fun j => [(7, .int .i64 (j : Int))]) (fun s => [⟨C, #[.int .i64 K, .int .i64 x.vm, .int .i64 x.frame, .int .i64 x.mid, .int .i64 x.vcpu, .int .i64 x.ccpu], 33⟩, ⟨B, #[.slice p P.pages.length pc, .slice g P.guests.length gc, .slice o P.on.length oc, .slice (some ⟨b, of, none⟩) A.length ac], 29⟩]) (fun j => j ≤ P.on.length) (fun j => P.on.length - j) 0 (by omega) ?_
    rintro cpu m2 hm2 hcpu
    refine runG ?_
    refine st_cond _ rfl (fun hc3 => ?_) (fun hc3 => ?_)
    · simp only [Bool.and_eq_true, decide_eq_true_eq] at hc3
      refine run ?_
      refine loopS (σ := Nat) (fun j => [(8, .int .i64 (j : Int))]) (fun s => [⟨C, #[.int .i64 K, .int .i64 x.vm, .int .i64 x.frame, .int .i64 x.mid, .int .i64 x.vcpu, .int .i64 x.ccpu], 33⟩, ⟨B, #[.slice p P.pages.length pc, .slice g P.guests.length gc, .slice o P.on.length oc, .slice (some ⟨b, of, none⟩) A.length ac], 29⟩]) (fun j => j ≤ 3) (fun j => 3 - j) 0 (by omega) ?_
      rintro n m3 hm3 hn
      refine run ?_
      refine st_cond _ rfl (fun hc4 => ?_) (fun hc4 => ?_)
      · have hn3 : n < 3 := by simp at hc4; omega
        refine run ?_
        intro D
        refine run ?_
        refine st_cutD (σ := ClD) (fun _ => []) (fun c => [⟨D, #[.int .i64 c.kind, .int .i64 c.vm, .int .i64 c.frame, .int .i64 c.mid, .int .i64 c.vcpu, .int .i64 c.ccpu], 33⟩, ⟨C, #[.int .i64 K, .int .i64 x.vm, .int .i64 x.frame, .int .i64 x.mid, .int .i64 x.vcpu, .int .i64 x.ccpu], 33⟩, ⟨B, #[.slice p P.pages.length pc, .slice g P.guests.length gc, .slice o P.on.length oc, .slice (some ⟨b, of, none⟩) A.length ac], 29⟩]) (fun c => c.kind = K ∧ c.Wf) ?_ ?_
        · refine st_cond _ rfl (fun hc5 => ?_) (fun hc5 => ?_)
          · refine run ?_
            refine op1 (by rfl) (x_rem rfl rfl (by omega) (by omega)) ?_
            refine run ?_
            refine op1 (by rfl) (x_rem rfl rfl (by omega) (by omega)) ?_
            refine run ?_
            refine op1 (by rfl) (x_rem rfl rfl (by omega) (by omega)) ?_
            refine run ?_
            refine op1 (by rfl) (x_rem rfl rfl (by omega) (by omega)) ?_
            refine run ?_
            refine meetS ⟨K, 1 + (n : Int) % 2, 16 + ((k : Int) * 7 + (n : Int) * 5) % 24, ((k : Int) + (n : Int)) % 4, (n : Int) % 2, x.ccpu⟩ ⟨rfl, ⟨?_, ?_, ?_, ?_⟩⟩
            all_goals (dsimp only; unfold I64; omega)
          · refine run ?_
            exact meetS ⟨K, x.vm, x.frame, x.mid, x.vcpu, x.ccpu⟩ ⟨rfl, ⟨hx.vm, hx.frame, hx.mid, hx.vcpu⟩⟩
        rintro c ⟨hck, hcw⟩
        obtain ⟨r, hD, hR⟩ := hK P cpu c hck hcw (by omega) ⟨by have := hs.pg; omega, by have := hs.gs; omega, by have := hs.on; omega, fun i hi => by have := hs.vc i hi; omega⟩
        refine run ?_
        refine callB (fun wc hG => hD _ _ _ _ (hp.good hG)) ?_
        intro u hn hu
        cases hm : P.may
        · rw [hm] at hu
          obtain rfl : u = .tuple #[.agg #[.slice none 0 0, .slice none 0 0, .slice none 0 0], .int .i64 1] := hu
          refine ops_le [⟨D, #[.int .i64 c.kind, .int .i64 c.vm, .int .i64 c.frame, .int .i64 c.mid, .int .i64 c.vcpu, .int .i64 c.ccpu], 33⟩, ⟨C, #[.int .i64 K, .int .i64 x.vm, .int .i64 x.frame, .int .i64 x.mid, .int .i64 x.vcpu, .int .i64 x.ccpu], 33⟩, ⟨B, #[.slice p P.pages.length pc, .slice g P.guests.length gc, .slice o P.on.length oc, .slice (some ⟨b, of, none⟩) A.length ac], 29⟩] (by (refine hpLe_cnt fun a => ?_; simp only [cntB_app, cntB_cons, cntB_nil]; omega)) ?_
          refine run ?_
          intro X W
          refine callE (fun wc hG => partR_e (hp.good hG)) ?_
          rw [← PtD.may_eq, hm]
          refine runC ?_
          refine callE (fun wc hG => num18_e _ wc) ?_
          refine runC ?_
          refine callEG (fun hg wc hG => eqPart_e (partG_nil wc) (partG_nil wc)) ?_
          refine runC ?_
          exact nextS (n + 1) (by omega) (h2 := by (repeat (first | exact True.intro | exact HpLe.refl _ | (with_reducible exact HpLe.left _ _) | (with_reducible exact HpLe.right _ _) | (refine Exists.intro _ (And.intro (by first | exact p0 | exact p1 | exact p2 | exact p3 | exact p4 | exact p5) ?_)) | (with_reducible apply HpLe.app) | (with_reducible apply HpLe.skip))))
        · rw [hm] at hu
          cases hrr : r with
          | error e =>
            rw [hrr] at hu hR
            obtain rfl : u = .tuple #[.agg #[.slice none 0 0, .slice none 0 0, .slice none 0 0], .int .i64 e] := hu
            refine ops_le [⟨D, #[.int .i64 c.kind, .int .i64 c.vm, .int .i64 c.frame, .int .i64 c.mid, .int .i64 c.vcpu, .int .i64 c.ccpu], 33⟩, ⟨C, #[.int .i64 K, .int .i64 x.vm, .int .i64 x.frame, .int .i64 x.mid, .int .i64 x.vcpu, .int .i64 x.ccpu], 33⟩, ⟨B, #[.slice p P.pages.length pc, .slice g P.guests.length gc, .slice o P.on.length oc, .slice (some ⟨b, of, none⟩) A.length ac], 29⟩] (by (refine hpLe_cnt fun a => ?_; simp only [cntB_app, cntB_cons, cntB_nil]; omega)) ?_
            refine run ?_
            intro X W
            refine callE (fun wc hG => partR_e (hp.good hG)) ?_
            rw [← PtD.may_eq, hm]
            refine runC ?_
            refine callB (fun wc hG => hR hm _ _ _ _ (hp.good hG)) ?_
            intro u2 hn2 hu2
            obtain rfl : u2 = .tuple #[.agg #[.slice none 0 0, .slice none 0 0, .slice none 0 0], .int .i64 e] := hu2
            refine ops_perm (_ ++ hn2) List.perm_append_comm ?_
            simp only [List.cons_append, List.nil_append]
            refine runC ?_
            refine callE (fun wc hG => num18_e _ wc) ?_
            refine runG ?_
            refine callEG (fun hg wc hG => eqPart_e (partG_nil wc) (partG_nil wc)) ?_
            refine runG ?_
            refine st_cond _ rfl (fun hq => absurd hq (by simp)) (fun hq => ?_)
            refine run ?_
            exact nextS (n + 1) (by omega) (h2 := by (repeat (first | exact True.intro | exact HpLe.refl _ | (with_reducible exact HpLe.left _ _) | (with_reducible exact HpLe.right _ _) | (refine Exists.intro _ (And.intro (by first | exact p0 | exact p1 | exact p2 | exact p3 | exact p4 | exact p5) ?_)) | (with_reducible apply HpLe.app) | (with_reducible apply HpLe.skip))))
          | ok P' =>
            rw [hrr] at hu hR
            obtain ⟨Y, rfl, hO, hle⟩ := hu
            refine ops_le (⟨D, #[.int .i64 c.kind, .int .i64 c.vm, .int .i64 c.frame, .int .i64 c.mid, .int .i64 c.vcpu, .int .i64 c.ccpu], 33⟩ :: ⟨C, #[.int .i64 K, .int .i64 x.vm, .int .i64 x.frame, .int .i64 x.mid, .int .i64 x.vcpu, .int .i64 x.ccpu], 33⟩ :: ⟨B, #[.slice p P.pages.length pc, .slice g P.guests.length gc, .slice o P.on.length oc, .slice (some ⟨b, of, none⟩) A.length ac], 29⟩ :: Y.in) (by (refine hpLe_cnt fun a => ?_; have := HpLe.cnt hle a; simp only [cntB_app, cntB_cons, cntB_nil] at *; omega)) ?_
            refine run ?_
            intro X W
            refine callE (fun wc hG => partR_e (hp.good hG)) ?_
            rw [← PtD.may_eq, hm]
            refine runC ?_
            refine callB (fun wc hG => hR hm _ _ _ _ (hp.good hG)) ?_
            intro u2 hn2 hu2
            obtain ⟨Y2, rfl, hO2, hle2⟩ := hu2
            refine ops_le (⟨W, #[Y.pv P', Y.gv P', Y.ov P'], 26⟩ :: ⟨X, #[Y.pv P', Y.gv P', Y.ov P'], 26⟩ :: ⟨D, #[.int .i64 c.kind, .int .i64 c.vm, .int .i64 c.frame, .int .i64 c.mid, .int .i64 c.vcpu, .int .i64 c.ccpu], 33⟩ :: ⟨C, #[.int .i64 K, .int .i64 x.vm, .int .i64 x.frame, .int .i64 x.mid, .int .i64 x.vcpu, .int .i64 x.ccpu], 33⟩ :: ⟨B, #[.slice p P.pages.length pc, .slice g P.guests.length gc, .slice o P.on.length oc, .slice (some ⟨b, of, none⟩) A.length ac], 29⟩ :: (Y.in ++ Y2.in)) (by (refine hpLe_cnt fun a => ?_; have := HpLe.cnt hle2 a; simp only [cntB_app, cntB_cons, cntB_nil] at *; omega)) ?_
            refine runC ?_
            refine callE (fun wc hG => num18_e _ wc) ?_
            refine runC ?_
            refine callEG (fun hg wc hG => eqPart_e (hO.partG (hG.here' (by (refine hpLe_cnt fun a => ?_; simp only [cntB_app, cntB_cons, cntB_nil]; omega)))) (hO2.partG (hG.here' (by (refine hpLe_cnt fun a => ?_; simp only [cntB_app, cntB_cons, cntB_nil]; omega))))) ?_
            refine runC ?_
            exact nextS (n + 1) (by omega) (h2 := by (repeat (first | exact True.intro | exact HpLe.refl _ | (with_reducible exact HpLe.left _ _) | (with_reducible exact HpLe.right _ _) | (refine Exists.intro _ (And.intro (by first | exact p0 | exact p1 | exact p2 | exact p3 | exact p4 | exact p5) ?_)) | (with_reducible apply HpLe.app) | (with_reducible apply HpLe.skip))))
      · refine run ?_
        exact nextS (cpu + 1) (by omega)
    · refine run ?_
      exact nextS (k + 1) (by omega)
  · refine run ?_
    refine callE (fun wc hG => wakes_e wc) ?_
    refine run ?_
    exact fin1 rfl
end Go.Proofs.YtdfkcjjbflcafaaGreat
