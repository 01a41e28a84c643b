/- Layer 18 (part): calls: a virtual processor more, run, stop. -/
import Derived.Test.YtdfkcjjbflcafaaGreatPartX
namespace Go.Proofs.YtdfkcjjbflcafaaGreat
open Go.RowKit
set_option linter.unusedVariables false
set_option linter.unusedSimpArgs false
set_option maxRecDepth 20000
attribute [local irreducible] Hy St Ops DH DHF
/-- A call. -/
structure ClD where
  kind : Int
  vm : Int
  frame : Int
  mid : Int
  vcpu : Int
  ccpu : Int
abbrev clV (c : ClD) : Value := .agg #[.int .i64 c.kind, .int .i64 c.vm, .int .i64 c.frame, .int .i64 c.mid, .int .i64 c.vcpu, .int .i64 c.ccpu]
structure ClD.Wf (c : ClD) : Prop where
  vm : I64 c.vm
  frame : I64 c.frame
  mid : I64 c.mid
  vcpu : I64 c.vcpu
/-- A guest's place by its number. -/
def ix (n : Int) : Nat := (n - 1).toNat
theorem ix_lt {n : Int} (h : 1 ≤ n ∧ n ≤ 4) : ix n < 4 := by unfold ix; omega
namespace PtD
def moreL (P : PtD) (vm : Int) : Except Int PtD :=
  bif !btw vm 1 4 then .error 2 else bif !(P.gs (ix vm)).live then .error 3 else bif decide (2 ≤ (P.gs (ix vm)).vcpus.length) then .error 5
  else .ok (P.setGs (ix vm) { P.gs (ix vm) with vcpus := (P.gs (ix vm)).vcpus ++ [-1] })
end PtD
section
variable {P : PtD} {Y : Lay} {bx tx : Nat} {w : World}
theorem more_e (h : OwnP P Y) (hN : HereN (Y.hd P bx 54) w) (c : ClD) : Fn Tryz.prog 54 [.pointer (some ⟨bx, 0, none⟩), clV c].toArray w ((Y.hd P bx 54).map (·.b)) (CallR bx 54 (P.moreL c.vm)) := by
  refine enterM _ hN Tryz.func54 ?_
  refine run ?_
  intro B
  refine run ?_
  refine callE (fun wc hG => machined_e _ wc) ?_
  cases hb : PtD.btw c.vm 1 4
  · refine runC ?_
    refine fin1 ?_
    simp [CallR, PtD.moreL, hb]
  refine runC ?_
  have hb' := hb
  simp only [PtD.btw, Bool.and_eq_true, decide_eq_true_eq] at hb'
  have hi : ix c.vm < 4 := ix_lt hb'
  refine callE (fun wc hG => guestO_e (bx := bx) (tx := 54) h (hG.here' (by (refine hpLe_cnt fun a => ?_; simp only [cntB_app, cntB_cons, cntB_nil]; omega))) hb') ?_
  obtain ⟨i, hi'⟩ : ∃ i, i = ix c.vm := ⟨_, rfl⟩
  rw [← hi'] at hi
  rw [show (c.vm - 1).toNat = i from hi'.symm]
  obtain ⟨q, cap, ev⟩ := (h.vc i hi).opened
  have n0 := h.g0 hi
  have n3 := h.g3 hi
  rw [ev, List.length_map] at n3
  have hz := h.gsz
  refine run ?_
  refine drawN 12 ?_
  refine runD ?_
  refine callD (fun wc hG => unless_e _ _ wc) ?_
  refine runD ?_
  refine callD (fun wc hG => unless_e _ _ wc) ?_
  refine runD ?_
  refine run ?_
  intro F
  refine callE (fun wc hG => first_e [_, _] _ (lits hG mh [_, _] rfl rfl (by simp))) ?_
  have key : P.moreL c.vm = bif decide (firstL [bif (P.gs i).live then 0 else 3, bif decide (((P.gs i).vcpus.length : Int) < 2) then 0 else 5] = 0) then .ok (P.setGs i { P.gs i with vcpus := (P.gs i).vcpus ++ [-1] }) else .error (firstL [bif (P.gs i).live then 0 else 3, bif decide (((P.gs i).vcpus.length : Int) < 2) then 0 else 5]) := by
    have e : decide (((P.gs i).vcpus.length : Int) < 2) = !decide (2 ≤ (P.gs i).vcpus.length) := by rw [Bool.eq_iff_iff]; simp; omega
    rw [e, PtD.moreL, hb, ← hi']
    cases (P.gs i).live <;> cases decide (2 ≤ (P.gs i).vcpus.length) <;> rfl
  generalize hE : firstL [bif (P.gs i).live then 0 else 3, bif decide (((P.gs i).vcpus.length : Int) < 2) then 0 else 5] = E at key
  refine run ?_
  refine st_cond _ rfl (fun hp => ?_) (fun hp => ?_)
  · refine run ?_
    refine fin1 ?_
    simp at hp
    rw [key]
    simp [CallR, hp]
  simp only [Bool.not_eq_false', decide_eq_true_eq] at hp
  subst hp
  have hlen : (P.gs i).vcpus.length < 2 := by
    cases hl : (P.gs i).live <;> cases hd : decide (((P.gs i).vcpus.length : Int) < 2) <;> rw [hl, hd] at hE <;> simp [firstL] at hE
    simp at hd; omega
  refine run ?_
  intro T
  obtain ⟨r, g1, g2⟩ := ghs_upd Y.G hi
  have hA := h.vc i hi
  rw [ev, List.length_map] at hA
  refine ops_le (⟨T, #[.int .i64 (-1)], 3⟩ :: ⟨Y.gb, Y.gc, 63⟩ :: ⟨bx, #[Y.pv P, Y.gv P, Y.ov P], 54⟩ :: ⟨Y.pb, Y.pc, 56⟩ :: ⟨Y.ob, Y.oc, 52⟩ :: ((Y.G i).hv ++ ((Y.G i).hm ++ r))) (by (refine hpLe_cnt fun a => ?_; have := HpLe.cnt g1 a; simp only [cntB_app, cntB_cons, cntB_nil] at *; omega)) ?_
  refine appendW (c := inV (-1)) (⟨T, #[.int .i64 (-1)], 3⟩ :: ⟨Y.gb, Y.gc, 63⟩ :: ⟨bx, #[Y.pv P, Y.gv P, Y.ov P], 54⟩ :: ⟨Y.pb, Y.pc, 56⟩ :: ⟨Y.ob, Y.oc, 52⟩ :: ((Y.G i).hm ++ r)) hA (fun v' ha' hA' => ?_) (by simp; omega) (news_own (m := 1) mh rfl) (by (refine perm_cnt fun a => ?_; simp only [cntB_app, cntB_cons, cntB_nil]; omega))
  obtain ⟨q', cap', ev'⟩ := hA'.opened
  subst ev'
  refine ops_perm (_ ++ ha') List.perm_append_comm ?_
  simp only [List.cons_append]
  refine run ?_
  refine fin1 ?_
  rw [key]
  have hf := (h.wf.gs i (by have := h.n.g4; omega))
  have hs := h.sm.vc i (by have := h.n.g4; omega)
  refine ⟨rfl, _, h.setG hi { P.gs i with vcpus := (P.gs i).vcpus ++ [-1] } ⟨(.slice q' ((P.gs i).vcpus.map inV ++ [inV (-1)]).length cap'), (Y.G i).mv, ha', (Y.G i).hm⟩ (h.gs.put gs_len (h.rowG hi) (k := 3) (vs := [_]) (by simp)) (by rw [List.map_append]; exact hA') (h.mp i hi) ⟨hf.1, fun x hx => ?_, hf.2.2⟩ ⟨by simp; omega, hs.2⟩, ?_⟩
  · rcases List.mem_append.1 hx with hx | hx
    · exact hf.2.1 x hx
    · simp at hx; subst hx; exact ⟨by decide, by decide⟩
  · have g3 := g2 (.slice q' ((P.gs i).vcpus.map inV ++ [inV (-1)]).length cap') (Y.G i).mv ha' (Y.G i).hm
    rw [hdG]
    simp only [putAt]
    (refine hpLe_cnt fun a => ?_; have := HpLe.cnt g3 a; simp only [cntB_app, cntB_cons, cntB_nil] at *; omega)
theorem names_e (c : ClD) (w : World) : Fn Tryz.prog 61 [clV c].toArray w [] (fun u _ => u = .bool (decide (c.kind = 3) || decide (c.kind = 6) || decide (c.kind = 7) || decide (c.kind = 8))) := by
  refine enter Tryz.func61 ?_
  refine run ?_
  intro B
  refine runG ?_
  exact fin1 rfl
theorem hostVcpu_e (h : OwnP P Y) (hN : HereN (Y.hd P bx 26) w) (cpu vm fr mid vc cc : Int) (hvm : I64 vm) : Fn Tryz.prog 33 [.pointer (some ⟨bx, 0, none⟩), .int .i64 cpu, clV ⟨7, vm, fr, mid, vc, cc⟩].toArray w ((Y.hd P bx 26).map (·.b)) (CallR bx 26 (P.moreL vm)) := by
  refine enterM _ hN Tryz.func33 ?_
  refine run ?_
  intro B
  refine run ?_
  refine callE (fun wc hG => names_e ⟨7, vm, fr, mid, vc, cc⟩ wc) ?_
  refine runC ?_
  have hbt : PtD.btw vm 1 4 = !(decide (vm < 1) || decide (4 < vm)) := by rw [Bool.eq_iff_iff]; simp [PtD.btw]
  refine st_cond _ rfl (fun hp => ?_) (fun hp => ?_)
  · refine run ?_
    refine fin1 ?_
    rw [Bool.true_and] at hp
    simp [CallR, PtD.moreL, hbt, hp]
  rw [Bool.true_and] at hp
  have hb : PtD.btw vm 1 4 = true := by rw [hbt, hp]; rfl
  have hb' := hb
  simp only [PtD.btw, Bool.and_eq_true, decide_eq_true_eq] at hb'
  have hi : ix vm < 4 := ix_lt hb'
  obtain ⟨q, cap, ev⟩ := (h.vc _ hi).opened
  have n0 := h.g0 hi
  have n3 := h.g3 hi
  rw [ev, List.length_map] at n3
  have hz := h.gsz
  have g4 := h.n.g4
  refine runC ?_
  refine drawAll ?_
  refine runDG ?_
  refine runC ?_
  refine st_cond _ rfl (fun hl => ?_) (fun hl => ?_)
  · refine run ?_
    refine fin1 ?_
    simp at hl
    simp [CallR, PtD.moreL, hb, hl]
  rw [Bool.true_and, Bool.not_eq_false'] at hl
  refine runC ?_
  refine drawN 8 ?_
  refine runD ?_
  rw [show (vm - 1).toNat = ix vm from rfl]
  refine runC ?_
  refine st_cond _ rfl (fun hc => ?_) (fun hc => ?_)
  · refine run ?_
    refine fin1 ?_
    have hc' : 2 ≤ (P.gs (ix vm)).vcpus.length := by simp at hc; omega
    simp [CallR, PtD.moreL, hb, hl, hc']
  have hc' : (P.gs (ix vm)).vcpus.length < 2 := by simp at hc; omega
  have key : P.moreL vm = .ok (P.setGs (ix vm) { P.gs (ix vm) with vcpus := (P.gs (ix vm)).vcpus ++ [-1] }) := by
    simp only [PtD.moreL, hb, hl, show decide (2 ≤ (P.gs (ix vm)).vcpus.length) = false by simp; omega]
    rfl
  refine runC ?_
  intro T
  obtain ⟨r, g1, g2⟩ := ghs_upd Y.G hi
  have hA := h.vc (ix vm) hi
  rw [ev, List.length_map] at hA
  refine ops_le (⟨T, #[.int .i64 (-1)], 3⟩ :: ⟨Y.gb, Y.gc, 63⟩ :: ⟨bx, #[Y.pv P, Y.gv P, Y.ov P], 26⟩ :: ⟨Y.pb, Y.pc, 56⟩ :: ⟨Y.ob, Y.oc, 52⟩ :: ((Y.G (ix vm)).hv ++ ((Y.G (ix vm)).hm ++ r))) (by (refine hpLe_cnt fun a => ?_; have := HpLe.cnt g1 a; simp only [cntB_app, cntB_cons, cntB_nil] at *; omega)) ?_
  refine appendW (c := inV (-1)) (⟨T, #[.int .i64 (-1)], 3⟩ :: ⟨Y.gb, Y.gc, 63⟩ :: ⟨bx, #[Y.pv P, Y.gv P, Y.ov P], 26⟩ :: ⟨Y.pb, Y.pc, 56⟩ :: ⟨Y.ob, Y.oc, 52⟩ :: ((Y.G (ix vm)).hm ++ r)) hA (fun v' ha' hA' => ?_) (by simp; omega) (news_own (m := 1) mh rfl) (by (refine perm_cnt fun a => ?_; simp only [cntB_app, cntB_cons, cntB_nil]; omega))
  obtain ⟨q', cap', ev'⟩ := hA'.opened
  subst ev'
  refine ops_perm (_ ++ ha') List.perm_append_comm ?_
  simp only [List.cons_append]
  refine run ?_
  refine fin1 ?_
  rw [key]
  have hf := (h.wf.gs (ix vm) (by have := h.n.g4; omega))
  have hs := h.sm.vc (ix vm) (by have := h.n.g4; omega)
  refine ⟨rfl, _, h.setG hi { P.gs (ix vm) with vcpus := (P.gs (ix vm)).vcpus ++ [-1] } ⟨(.slice q' ((P.gs (ix vm)).vcpus.map inV ++ [inV (-1)]).length cap'), (Y.G (ix vm)).mv, ha', (Y.G (ix vm)).hm⟩ (h.gs.put gs_len (h.rowG hi) (k := 3) (vs := [_]) (by simp)) (by rw [List.map_append]; exact hA') (h.mp (ix vm) hi) ⟨hf.1, fun x hx => ?_, hf.2.2⟩ ⟨by simp; omega, hs.2⟩, ?_⟩
  · rcases List.mem_append.1 hx with hx | hx
    · exact hf.2.1 x hx
    · simp at hx; subst hx; exact ⟨by decide, by decide⟩
  · have g3 := g2 (.slice q' ((P.gs (ix vm)).vcpus.map inV ++ [inV (-1)]).length cap') (Y.G (ix vm)).mv ha' (Y.G (ix vm)).hm
    rw [hdG]
    simp only [putAt]
    (refine hpLe_cnt fun a => ?_; have := HpLe.cnt g3 a; simp only [cntB_app, cntB_cons, cntB_nil] at *; omega)
end
end Go.Proofs.YtdfkcjjbflcafaaGreat
