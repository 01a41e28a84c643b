/- Layer 18 (part): the reference's small functions. -/
import Derived.Test.YtdfkcjjbflcafaaGreatPartG
namespace Go.Proofs.YtdfkcjjbflcafaaGreat
open Go.RowKit
set_option linter.unusedVariables false
set_option linter.unusedSimpArgs false
set_option maxRecDepth 20000
attribute [local irreducible] Hy St Ops DH DHF
theorem who_e (n : Int) (w : World) : Fn Tryz.prog 28 [.int .i64 n].toArray w [] (fun u _ => u = .bool (PtD.who n)) := by
  refine enter Tryz.func28 ?_
  refine runG ?_
  exact fin1 rfl
theorem num_e (n m : Int) (w : World) : Fn Tryz.prog 56 [.int .i64 n, .int .i64 m].toArray w [] (fun u _ => u = .bool (decide (0 ≤ n) && decide (n ≤ m))) := by
  refine enter Tryz.func56 ?_
  refine runG ?_
  exact fin1 rfl
theorem num18_e (n : Int) (w : World) : Fn Tryz.prog 19 [.int .i64 n].toArray w [] (fun u _ => u = .int .i64 n) := by
  refine enter Tryz.func19 ?_
  refine run ?_
  exact fin1 rfl
theorem mappedR_e (xs : List MpD) (v : Value) (w : World) (h : SlAt w v 2 (xs.map mpV)) (f : Int) : Fn Tryz.prog 57 [v, .int .i64 f].toArray w [] (fun u _ => u = .int .i64 (PtD.mappedR xs f)) := by
  obtain ⟨q, cap, rfl, hne, hle⟩ := h.opened
  refine enter Tryz.func57 ?_
  refine run ?_
  refine loopS (σ := Nat) (fun k => [(5, .int .i64 (k : Int))]) (fun _ => []) (fun k => k ≤ xs.length ∧ ∀ j, j < k → decide ((xs.getD j default).frm = f) = false) (fun k => xs.length - k) 0 ⟨Nat.zero_le _, fun j hj => absurd hj (by omega)⟩ ?_
  rintro k m hm ⟨hk, hno⟩
  refine run ?_
  refine st_cond _ rfl (fun hc => ?_) (fun hc => ?_)
  · have hlt : k < xs.length := by simp at hc; omega
    obtain ⟨b, o, rfl⟩ := hne (by intro e; subst e; simp at hlt)
    have h1 := rangeAt_cell (k := 1) (h.row hlt) rfl
    refine run ?_
    refine st_cond _ rfl (fun hp => ?_) (fun hp => ?_)
    · refine run ?_
      refine fin1 ?_
      simp only [PtD.mappedR, (PtD.idx_at (p := fun m => decide (m.frm = f)) hlt hp).2 hno]
    · refine run ?_
      refine nextS (k + 1) ⟨hlt, fun j hj => ?_⟩
      rcases Nat.lt_succ_iff_lt_or_eq.1 hj with hj | rfl
      · exact hno j hj
      · exact hp
  · have hge : k = xs.length := by simp at hc; omega
    subst hge
    refine run ?_
    refine fin1 ?_
    unfold PtD.mappedR
    rw [idx_nope (p := fun (m : MpD) => decide (m.frm = f)) hno]
section
variable {w : World} {L : PtL} {P : PtD}
theorem guestR_e (h : PartV w L P) (n m : Nat) (vm : Int) (hvm : I64 vm) : Fn Tryz.prog 30 [.agg #[L.pv n, L.gv P.guests.length, L.ov m], .int .i64 vm].toArray w [] (fun u _ => u = .bool (P.guestR vm)) := by
  obtain ⟨hv0, hv1⟩ := hvm
  refine enter Tryz.func30 ?_
  refine run ?_
  intro B
  by_cases hin : 1 ≤ vm ∧ vm ≤ P.guests.length
  · have h0 := h.gs0 (i := (vm - 1).toNat) (by omega)
    refine runG ?_
    refine fin1 ?_
    simp only [PtD.guestR]
  · have hf : (decide (1 ≤ vm) && decide (vm ≤ (P.guests.length : Int))) = false := by
      rw [← Bool.not_eq_true]; intro h; simp at h; exact hin h
    refine runG ?_
    rw [hf]
    refine runG ?_
    refine fin1 ?_
    rw [PtD.guestR, hf]; rfl
theorem tablesR_e (h : PartV w L P) (n m : Nat) (hn : P.guests.length ≤ 1000) (f : Int) (hf : I64 f) : Fn Tryz.prog 29 [.agg #[L.pv n, L.gv P.guests.length, L.ov m], .int .i64 f].toArray w [] (fun u _ => u = .int .i64 (P.tablesR f)) := by
  obtain ⟨hv0, hv1⟩ := hf
  refine enter Tryz.func29 ?_
  refine run ?_
  intro B
  refine run ?_
  refine loopS (σ := Nat) (fun k => [(5, .int .i64 (k : Int))]) (fun _ => [⟨B, #[L.pv n, L.gv P.guests.length, L.ov m], 26⟩]) (fun k => k ≤ P.guests.length ∧ ∀ j, j < k → PtD.within f (P.gs j) = false) (fun k => P.guests.length - k) 0 ⟨Nat.zero_le _, fun j hj => absurd hj (by omega)⟩ ?_
  rintro k m hm ⟨hk, hno⟩
  refine run ?_
  refine st_cond _ rfl (fun hc => ?_) (fun hc => ?_)
  · have hlt : k < P.guests.length := by simp at hc; omega
    have hr := h.gs k hlt
    obtain ⟨q, cap, hmv, _⟩ := (h.mp k hlt).opened
    obtain ⟨q2, cap2, hvv, _⟩ := (h.vc k hlt).opened
    rw [hmv, hvv] at hr
    refine run ?_
    intro G
    refine runG ?_
    have hw : ((P.gs k).live && decide ((P.gs k).first ≤ f) && decide (IntKind.i64.wrap (f - (P.gs k).first) < 5)) = PtD.within f (P.gs k) := rfl
    refine st_cond _ rfl (fun hp => ?_) (fun hp => ?_)
    · refine run ?_
      refine fin1 ?_
      unfold PtD.tablesR
      rw [(PtD.idx_at (p := PtD.within f) hlt hp).2 hno]
      simp
    · refine run ?_
      refine nextS (k + 1) ⟨hlt, fun j hj => ?_⟩
      rcases Nat.lt_succ_iff_lt_or_eq.1 hj with hj | rfl
      · exact hno j hj
      · exact hp
  · have hge : k = P.guests.length := by simp at hc; omega
    subst hge
    refine run ?_
    refine fin1 ?_
    unfold PtD.tablesR
    rw [idx_nope (p := PtD.within f) hno]
end
end Go.Proofs.YtdfkcjjbflcafaaGreat
