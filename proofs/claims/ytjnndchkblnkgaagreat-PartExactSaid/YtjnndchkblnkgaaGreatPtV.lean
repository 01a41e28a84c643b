/- Layer 18 (part): PartExact. -/
import Derived.Test.YtjnndchkblnkgaaGreatPtU
namespace Go.Proofs.YtjnndchkblnkgaaGreat
open Go.RowKit
set_option linter.unusedVariables false
set_option linter.unusedSimpArgs false
set_option maxRecDepth 20000
attribute [local irreducible] Hy St Ops DH DHF
/-- A partition that lies somewhere of one's own. -/
structure CpD where
  P : PtD
  q1 : Option Addr
  q2 : Option Addr
  q3 : Option Addr
  c1 : Nat
  c2 : Nat
  c3 : Nat
  h : Hp
abbrev CpD.cs (s : CpD) : Array Value := #[.slice s.q1 s.P.pages.length s.c1, .slice s.q2 s.P.guests.length s.c2, .slice s.q3 s.P.on.length s.c3]
structure CpD.Ok (s : CpD) : Prop where
  sm : s.P.Small 1000
  at_ : ∀ w, Here s.h w → PartG w (.slice s.q1 s.P.pages.length s.c1) (.slice s.q2 s.P.guests.length s.c2) (.slice s.q3 s.P.on.length s.c3) s.P
def eNo : Except Int PtD → Int
  | .error e => e
  | .ok _ => 0
def yC (r : Except Int PtD) (Y : Lay) : Array Value := match r with
  | .error _ => #[.slice none 0 0, .slice none 0 0, .slice none 0 0]
  | .ok P => #[Y.pv P, Y.gv P, Y.ov P]
def yB (r : Except Int PtD) (Y : Lay) : Hp := match r with
  | .error _ => []
  | .ok _ => Y.in
def okO (r : Except Int PtD) (Y : Lay) : Prop := match r with
  | .error _ => True
  | .ok P => OwnP P Y
def noLay : Lay := ⟨0, 0, 0, 0, 0, 0, #[], #[], #[], fun _ => ⟨.slice none 0 0, .slice none 0 0, [], []⟩⟩
set_option maxHeartbeats 8000000 in
theorem exact_e {w : World} {v : Value} {P : PtD} {A : List ActD} (h : ScrG w v P A) : Fn Tryz.prog 3 [v].toArray w [] (fun u _ => u = .bool true) := by
  obtain ⟨⟨pv, gv, ov, lv, rfl, hp, hl⟩, hwf⟩ := h
  have hp' := hp
  obtain ⟨p, pc, g, gc, o, oc, rfl, rfl, rfl, hl1, hl2, hl3⟩ := hp.slices
  obtain ⟨a, ac, rfl, hane, hal⟩ := hl.opened
  refine enter Tryz.func3 ?_
  refine run ?_
  intro B
  refine run ?_
  refine callV (fun wc hG => heavy_e rfl (hp.good hG)) ?_
  rintro _ ⟨hv, rfl, hsm⟩
  refine run ?_
  refine st_cond _ rfl (fun hc => ?_) (fun hc => ?_)
  · refine run ?_
    exact fin1 rfl
  obtain ⟨hs, ha5⟩ := hsm hc
  have hs1 : P.Small 1000 := ⟨by have := hs.pg; omega, by have := hs.gs; omega, by have := hs.on; omega, fun i hi => by have := hs.vc i hi; omega⟩
  refine run ?_
  refine callB (fun wc hG => copyPartN_e (hp'.good hG) hs1) ?_
  rintro _ hn ⟨q1, q2, q3, c1, c2, c3, hx, rfl, hxG, hle⟩
  refine ops_le (⟨B, #[.slice p P.pages.length pc, .slice g P.guests.length gc, .slice o P.on.length oc, .slice a A.length ac], 29⟩ :: hx) (by (refine hpLe_cnt fun a => ?_; have := HpLe.cnt hle a; simp only [cntB_app, cntB_cons, cntB_nil] at *; omega)) ?_
  refine run ?_
  intro X
  refine loopS (σ := Nat × CpD) (fun s => [(4, .int .i64 (s.1 : Int))]) (fun s => ⟨X, s.2.cs, 26⟩ :: ⟨B, #[.slice p P.pages.length pc, .slice g P.guests.length gc, .slice o P.on.length oc, .slice a A.length ac], 29⟩ :: s.2.h) (fun s => s.1 ≤ A.length ∧ s.2.Ok) (fun s => A.length - s.1) (0, ⟨P, q1, q2, q3, c1, c2, c3, hx⟩) ⟨Nat.zero_le _, hs1, hxG⟩ (hh := by simp only [CpD.cs]; (refine hpLe_cnt fun a => ?_; simp only [cntB_app, cntB_cons, cntB_nil]; omega)) ?_
  rintro ⟨k, s⟩ m hm ⟨hk, hS⟩
  dsimp only at hm hk hS ⊢
  refine runG ?_
  refine st_cond _ rfl (fun hc2 => ?_) (fun hc2 => ?_)
  rotate_left
  · refine run ?_
    refine callE (fun wc hG => wakes_e wc) ?_
    refine run ?_
    exact fin1 rfl
  simp only [Bool.and_eq_true, decide_eq_true_eq] at hc2
  obtain ⟨b, of, rfl⟩ := hane (by intro e; rw [e] at hc2; simp at hc2; omega)
  have hr := hl.row (k := k) (by omega)
  simp only [actV] at hr
  have hx : (A.getD k default).Wf := by
    refine hwf _ ?_
    rw [List.getD_eq_getElem?_getD, List.getElem?_eq_getElem (by omega)]
    simp
  generalize A.getD k default = x at hr hx
  have hcall : w.rangeAt b (of + k * 8 + 1) [.int .i64 x.kind, .int .i64 x.vm, .int .i64 x.frame, .int .i64 x.mid, .int .i64 x.vcpu, .int .i64 x.ccpu] := rangeAt_sub (k := 1) (n := 6) hr rfl
  refine run ?_
  intro AA
  refine callE (fun wc hG => partR_e (hS.at_ wc (hG.here' (by (refine hpLe_cnt fun a => ?_; simp only [cntB_app, cntB_cons, cntB_nil]; omega))))) ?_
  rw [← PtD.may_eq]
  refine run ?_
  refine callB (fun wc hG => copyPartN_e (hS.at_ wc (hG.here' (by (refine hpLe_cnt fun a => ?_; simp only [cntB_app, cntB_cons, cntB_nil]; omega)))) hS.sm) ?_
  rintro _ hn2 ⟨r1, r2, r3, d1, d2, d3, hi, rfl, hiG, hle2⟩
  refine ops_le (⟨AA, #[.int .i64 x.cpu, .int .i64 x.kind, .int .i64 x.vm, .int .i64 x.frame, .int .i64 x.mid, .int .i64 x.vcpu, .int .i64 x.ccpu, .bool x.stop], 35⟩ :: ⟨X, s.cs, 26⟩ :: ⟨B, #[.slice p P.pages.length pc, .slice g P.guests.length gc, .slice o P.on.length oc, .slice (some ⟨b, of, none⟩) A.length ac], 29⟩ :: (s.h ++ hi)) (by (refine hpLe_cnt fun a => ?_; have := HpLe.cnt hle2 a; simp only [cntB_app, cntB_cons, cntB_nil] at *; omega)) ?_
  refine run ?_
  intro IN
  refine callE (fun wc hG => check_e (hiG wc (hG.here' (by (refine hpLe_cnt fun a => ?_; simp only [cntB_app, cntB_cons, cntB_nil]; omega))))) ?_
  refine run ?_
  refine callE (fun wc hG => num18_e _ wc) ?_
  refine run ?_
  refine st_cond _ rfl (fun hp => absurd hp (by cases s.P.may <;> decide)) (fun _ => ?_)
  refine run ?_
  intro YV WV
  have hon := hS.sm.on
  refine runG ?_
  refine callEG (fun hg wc hG => num_e _ _ wc) ?_
  refine runG ?_
  obtain ⟨IS, hIS⟩ : ∃ IS, IS = (s.P.may && (decide (0 ≤ x.cpu) && decide (x.cpu ≤ (s.P.on.length : Int) - 1))) := ⟨_, rfl⟩
  rw [← hIS]
  refine st_cutD (σ := Except Int PtD × Lay × Lay) (fun t => [(10, .int .i64 (eNo t.1)), (11, .int .i64 (eNo t.1))]) (fun t => ⟨WV, yC t.1 t.2.2, 26⟩ :: ⟨YV, yC t.1 t.2.1, 26⟩ :: ⟨IN, #[.slice r1 s.P.pages.length d1, .slice r2 s.P.guests.length d2, .slice r3 s.P.on.length d3], 26⟩ :: ⟨X, s.cs, 26⟩ :: ⟨B, #[.slice p P.pages.length pc, .slice g P.guests.length gc, .slice o P.on.length oc, .slice (some ⟨b, of, none⟩) A.length ac], 29⟩ :: (s.h ++ (hi ++ (yB t.1 t.2.1 ++ yB t.1 t.2.2)))) (fun t => okO t.1 t.2.1 ∧ okO t.1 t.2.2) ?_ ?_
  · cases hI : IS
    · have hout : s.P.may = false ∨ PtD.btw x.cpu 0 ((s.P.on.length : Int) - 1) = false := by
        rw [hIS] at hI
        cases hmm : s.P.may
        · exact .inl rfl
        · rw [hmm] at hI; exact .inr hI
      refine st_cond _ rfl (fun hst => ?_) (fun hst => ?_)
      · refine run ?_
        refine callB (fun wc hG => partStopOut_e (hiG wc (hG.here' (by (refine hpLe_cnt fun a => ?_; simp only [cntB_app, cntB_cons, cntB_nil]; omega)))) hS.sm x.cpu hout) ?_
        rintro _ hn3 rfl
        refine ops_le (⟨WV, #[.slice none 0 0, .slice none 0 0, .slice none 0 0], 26⟩ :: ⟨YV, #[.slice none 0 0, .slice none 0 0, .slice none 0 0], 26⟩ :: ⟨IN, #[.slice r1 s.P.pages.length d1, .slice r2 s.P.guests.length d2, .slice r3 s.P.on.length d3], 26⟩ :: ⟨X, s.cs, 26⟩ :: ⟨B, #[.slice p P.pages.length pc, .slice g P.guests.length gc, .slice o P.on.length oc, .slice (some ⟨b, of, none⟩) A.length ac], 29⟩ :: (s.h ++ hi)) (by (refine hpLe_cnt fun a => ?_; simp only [cntB_app, cntB_cons, cntB_nil]; omega)) ?_
        refine runC ?_
        exact meetS (.error 1, noLay, noLay) ⟨trivial, trivial⟩ (h2 := by simp only [yC, yB]; (refine hpLe_cnt fun a => ?_; simp only [cntB_app, cntB_cons, cntB_nil]; omega))
      · refine run ?_
        refine callB (fun wc hG => partDoOut_e (hiG wc (hG.here' (by (refine hpLe_cnt fun a => ?_; simp only [cntB_app, cntB_cons, cntB_nil]; omega)))) hS.sm x.cpu hout ⟨x.kind, x.vm, x.frame, x.mid, x.vcpu, x.ccpu⟩) ?_
        rintro _ hn3 rfl
        refine ops_le (⟨WV, #[.slice none 0 0, .slice none 0 0, .slice none 0 0], 26⟩ :: ⟨YV, #[.slice none 0 0, .slice none 0 0, .slice none 0 0], 26⟩ :: ⟨IN, #[.slice r1 s.P.pages.length d1, .slice r2 s.P.guests.length d2, .slice r3 s.P.on.length d3], 26⟩ :: ⟨X, s.cs, 26⟩ :: ⟨B, #[.slice p P.pages.length pc, .slice g P.guests.length gc, .slice o P.on.length oc, .slice (some ⟨b, of, none⟩) A.length ac], 29⟩ :: (s.h ++ hi)) (by (refine hpLe_cnt fun a => ?_; simp only [cntB_app, cntB_cons, cntB_nil]; omega)) ?_
        refine runC ?_
        exact meetS (.error 1, noLay, noLay) ⟨trivial, trivial⟩ (h2 := by simp only [yC, yB]; (refine hpLe_cnt fun a => ?_; simp only [cntB_app, cntB_cons, cntB_nil]; omega))
    · have hin : s.P.may = true ∧ 0 ≤ x.cpu ∧ x.cpu ≤ (s.P.on.length : Int) - 1 := by
        rw [hIS] at hI
        simpa [and_assoc] using hI
      obtain ⟨hm2, hc0, hc1⟩ := hin
      obtain ⟨cc, hcc⟩ : ∃ cc : Nat, x.cpu = cc := ⟨x.cpu.toNat, by omega⟩
      have hclt : cc < s.P.on.length := by omega
      rw [hcc]
      refine st_cond _ rfl (fun hst => ?_) (fun hst => ?_)
      · obtain ⟨rr, hrE⟩ : ∃ rr, rr = (bif decide ((s.P.st cc).vm = 0) then .error 6 else .ok (s.P.stopL cc) : Except Int PtD) := ⟨_, rfl⟩
        have hYr : ∀ w pv gv ov, PartG w pv gv ov s.P → Fn Tryz.prog 10 [.agg #[pv, gv, ov], .int .i64 (cc : Int)].toArray w [] (DoR rr) := fun w pv gv ov hh => hrE ▸ partStop_e hh hS.sm hm2 cc hclt
        have hWr : ∀ w pv gv ov, PartG w pv gv ov s.P → Fn Tryz.prog 11 [.agg #[pv, gv, ov], .int .i64 (cc : Int)].toArray w [] (DoR rr) := fun w pv gv ov hh => hrE ▸ lawStop_e hh hS.sm hm2 cc hclt
        refine run ?_
        cases hrr : rr with
        | error e =>
          rw [hrr] at hYr hWr
          refine callB (fun wc hG => hYr _ _ _ _ (hiG wc (hG.here' (by (refine hpLe_cnt fun a => ?_; simp only [cntB_app, cntB_cons, cntB_nil]; omega))))) ?_
          rintro _ hn3 rfl
          refine ops_le (⟨WV, #[.slice none 0 0, .slice none 0 0, .slice none 0 0], 26⟩ :: ⟨YV, #[.slice none 0 0, .slice none 0 0, .slice none 0 0], 26⟩ :: ⟨AA, #[.int .i64 (cc : Int), .int .i64 x.kind, .int .i64 x.vm, .int .i64 x.frame, .int .i64 x.mid, .int .i64 x.vcpu, .int .i64 x.ccpu, .bool x.stop], 35⟩ :: ⟨IN, #[.slice r1 s.P.pages.length d1, .slice r2 s.P.guests.length d2, .slice r3 s.P.on.length d3], 26⟩ :: ⟨X, s.cs, 26⟩ :: ⟨B, #[.slice p P.pages.length pc, .slice g P.guests.length gc, .slice o P.on.length oc, .slice (some ⟨b, of, none⟩) A.length ac], 29⟩ :: (s.h ++ hi)) (by (refine hpLe_cnt fun a => ?_; simp only [cntB_app, cntB_cons, cntB_nil]; omega)) ?_
          refine runC ?_
          refine callB (fun wc hG => hWr _ _ _ _ (hS.at_ wc (hG.here' (by (refine hpLe_cnt fun a => ?_; simp only [cntB_app, cntB_cons, cntB_nil]; omega))))) ?_
          rintro _ hn4 rfl
          refine ops_le (⟨WV, #[.slice none 0 0, .slice none 0 0, .slice none 0 0], 26⟩ :: ⟨YV, #[.slice none 0 0, .slice none 0 0, .slice none 0 0], 26⟩ :: ⟨IN, #[.slice r1 s.P.pages.length d1, .slice r2 s.P.guests.length d2, .slice r3 s.P.on.length d3], 26⟩ :: ⟨X, s.cs, 26⟩ :: ⟨B, #[.slice p P.pages.length pc, .slice g P.guests.length gc, .slice o P.on.length oc, .slice (some ⟨b, of, none⟩) A.length ac], 29⟩ :: (s.h ++ hi)) (by (refine hpLe_cnt fun a => ?_; simp only [cntB_app, cntB_cons, cntB_nil]; omega)) ?_
          refine runC ?_
          exact meetS (.error e, noLay, noLay) ⟨trivial, trivial⟩ (h2 := by simp only [yC, yB]; (refine hpLe_cnt fun a => ?_; simp only [cntB_app, cntB_cons, cntB_nil]; omega))
        | ok P2 =>
          rw [hrr] at hYr hWr
          refine callB (fun wc hG => hYr _ _ _ _ (hiG wc (hG.here' (by (refine hpLe_cnt fun a => ?_; simp only [cntB_app, cntB_cons, cntB_nil]; omega))))) ?_
          rintro _ hn3 ⟨Y, rfl, hO, hle3⟩
          refine ops_le (⟨WV, #[.slice none 0 0, .slice none 0 0, .slice none 0 0], 26⟩ :: ⟨YV, #[.slice none 0 0, .slice none 0 0, .slice none 0 0], 26⟩ :: ⟨AA, #[.int .i64 (cc : Int), .int .i64 x.kind, .int .i64 x.vm, .int .i64 x.frame, .int .i64 x.mid, .int .i64 x.vcpu, .int .i64 x.ccpu, .bool x.stop], 35⟩ :: ⟨IN, #[.slice r1 s.P.pages.length d1, .slice r2 s.P.guests.length d2, .slice r3 s.P.on.length d3], 26⟩ :: ⟨X, s.cs, 26⟩ :: ⟨B, #[.slice p P.pages.length pc, .slice g P.guests.length gc, .slice o P.on.length oc, .slice (some ⟨b, of, none⟩) A.length ac], 29⟩ :: (s.h ++ (hi ++ Y.in))) (by (refine hpLe_cnt fun a => ?_; have := HpLe.cnt hle3 a; simp only [cntB_app, cntB_cons, cntB_nil] at *; omega)) ?_
          refine runC ?_
          refine callB (fun wc hG => hWr _ _ _ _ (hS.at_ wc (hG.here' (by (refine hpLe_cnt fun a => ?_; simp only [cntB_app, cntB_cons, cntB_nil]; omega))))) ?_
          rintro _ hn4 ⟨Y2, rfl, hO2, hle4⟩
          refine ops_le (⟨WV, #[.slice none 0 0, .slice none 0 0, .slice none 0 0], 26⟩ :: ⟨YV, #[Y.pv P2, Y.gv P2, Y.ov P2], 26⟩ :: ⟨IN, #[.slice r1 s.P.pages.length d1, .slice r2 s.P.guests.length d2, .slice r3 s.P.on.length d3], 26⟩ :: ⟨X, s.cs, 26⟩ :: ⟨B, #[.slice p P.pages.length pc, .slice g P.guests.length gc, .slice o P.on.length oc, .slice (some ⟨b, of, none⟩) A.length ac], 29⟩ :: (s.h ++ (hi ++ (Y.in ++ Y2.in)))) (by (refine hpLe_cnt fun a => ?_; have := HpLe.cnt hle4 a; simp only [cntB_app, cntB_cons, cntB_nil] at *; omega)) ?_
          refine runC ?_
          exact meetS (.ok P2, Y, Y2) ⟨hO, hO2⟩ (h2 := by simp only [yC, yB]; (refine hpLe_cnt fun a => ?_; simp only [cntB_app, cntB_cons, cntB_nil]; omega))
      · obtain ⟨rr, hD, hR⟩ := kindAll x.kind s.P cc ⟨x.kind, x.vm, x.frame, x.mid, x.vcpu, x.ccpu⟩ rfl ⟨hx.vm, hx.frame, hx.mid, hx.vcpu⟩ hclt hS.sm
        have hYr := hD
        have hWr := hR hm2
        rw [hm2] at hYr
        simp only [cond_true] at hYr
        refine run ?_
        cases hrr : rr with
        | error e =>
          rw [hrr] at hYr hWr
          refine callB (fun wc hG => hYr _ _ _ _ (hiG wc (hG.here' (by (refine hpLe_cnt fun a => ?_; simp only [cntB_app, cntB_cons, cntB_nil]; omega))))) ?_
          rintro _ hn3 rfl
          refine ops_le (⟨WV, #[.slice none 0 0, .slice none 0 0, .slice none 0 0], 26⟩ :: ⟨YV, #[.slice none 0 0, .slice none 0 0, .slice none 0 0], 26⟩ :: ⟨AA, #[.int .i64 (cc : Int), .int .i64 x.kind, .int .i64 x.vm, .int .i64 x.frame, .int .i64 x.mid, .int .i64 x.vcpu, .int .i64 x.ccpu, .bool x.stop], 35⟩ :: ⟨IN, #[.slice r1 s.P.pages.length d1, .slice r2 s.P.guests.length d2, .slice r3 s.P.on.length d3], 26⟩ :: ⟨X, s.cs, 26⟩ :: ⟨B, #[.slice p P.pages.length pc, .slice g P.guests.length gc, .slice o P.on.length oc, .slice (some ⟨b, of, none⟩) A.length ac], 29⟩ :: (s.h ++ hi)) (by (refine hpLe_cnt fun a => ?_; simp only [cntB_app, cntB_cons, cntB_nil]; omega)) ?_
          refine runC ?_
          refine callB (fun wc hG => hWr _ _ _ _ (hS.at_ wc (hG.here' (by (refine hpLe_cnt fun a => ?_; simp only [cntB_app, cntB_cons, cntB_nil]; omega))))) ?_
          rintro _ hn4 rfl
          refine ops_le (⟨WV, #[.slice none 0 0, .slice none 0 0, .slice none 0 0], 26⟩ :: ⟨YV, #[.slice none 0 0, .slice none 0 0, .slice none 0 0], 26⟩ :: ⟨IN, #[.slice r1 s.P.pages.length d1, .slice r2 s.P.guests.length d2, .slice r3 s.P.on.length d3], 26⟩ :: ⟨X, s.cs, 26⟩ :: ⟨B, #[.slice p P.pages.length pc, .slice g P.guests.length gc, .slice o P.on.length oc, .slice (some ⟨b, of, none⟩) A.length ac], 29⟩ :: (s.h ++ hi)) (by (refine hpLe_cnt fun a => ?_; simp only [cntB_app, cntB_cons, cntB_nil]; omega)) ?_
          refine runC ?_
          exact meetS (.error e, noLay, noLay) ⟨trivial, trivial⟩ (h2 := by simp only [yC, yB]; (refine hpLe_cnt fun a => ?_; simp only [cntB_app, cntB_cons, cntB_nil]; omega))
        | ok P2 =>
          rw [hrr] at hYr hWr
          refine callB (fun wc hG => hYr _ _ _ _ (hiG wc (hG.here' (by (refine hpLe_cnt fun a => ?_; simp only [cntB_app, cntB_cons, cntB_nil]; omega))))) ?_
          rintro _ hn3 ⟨Y, rfl, hO, hle3⟩
          refine ops_le (⟨WV, #[.slice none 0 0, .slice none 0 0, .slice none 0 0], 26⟩ :: ⟨YV, #[.slice none 0 0, .slice none 0 0, .slice none 0 0], 26⟩ :: ⟨AA, #[.int .i64 (cc : Int), .int .i64 x.kind, .int .i64 x.vm, .int .i64 x.frame, .int .i64 x.mid, .int .i64 x.vcpu, .int .i64 x.ccpu, .bool x.stop], 35⟩ :: ⟨IN, #[.slice r1 s.P.pages.length d1, .slice r2 s.P.guests.length d2, .slice r3 s.P.on.length d3], 26⟩ :: ⟨X, s.cs, 26⟩ :: ⟨B, #[.slice p P.pages.length pc, .slice g P.guests.length gc, .slice o P.on.length oc, .slice (some ⟨b, of, none⟩) A.length ac], 29⟩ :: (s.h ++ (hi ++ Y.in))) (by (refine hpLe_cnt fun a => ?_; have := HpLe.cnt hle3 a; simp only [cntB_app, cntB_cons, cntB_nil] at *; omega)) ?_
          refine runC ?_
          refine callB (fun wc hG => hWr _ _ _ _ (hS.at_ wc (hG.here' (by (refine hpLe_cnt fun a => ?_; simp only [cntB_app, cntB_cons, cntB_nil]; omega))))) ?_
          rintro _ hn4 ⟨Y2, rfl, hO2, hle4⟩
          refine ops_le (⟨WV, #[.slice none 0 0, .slice none 0 0, .slice none 0 0], 26⟩ :: ⟨YV, #[Y.pv P2, Y.gv P2, Y.ov P2], 26⟩ :: ⟨IN, #[.slice r1 s.P.pages.length d1, .slice r2 s.P.guests.length d2, .slice r3 s.P.on.length d3], 26⟩ :: ⟨X, s.cs, 26⟩ :: ⟨B, #[.slice p P.pages.length pc, .slice g P.guests.length gc, .slice o P.on.length oc, .slice (some ⟨b, of, none⟩) A.length ac], 29⟩ :: (s.h ++ (hi ++ (Y.in ++ Y2.in)))) (by (refine hpLe_cnt fun a => ?_; have := HpLe.cnt hle4 a; simp only [cntB_app, cntB_cons, cntB_nil] at *; omega)) ?_
          refine runC ?_
          exact meetS (.ok P2, Y, Y2) ⟨hO, hO2⟩ (h2 := by simp only [yC, yB]; (refine hpLe_cnt fun a => ?_; simp only [cntB_app, cntB_cons, cntB_nil]; omega))
  rintro ⟨r, Y, Y2⟩ ⟨ho1, ho2⟩
  cases r with
  | error e =>
    simp only [yC, yB, eNo, List.nil_append, List.append_nil]
    refine run ?_
    refine callE (fun wc hG => num18_e _ wc) ?_
    refine runG ?_
    rw [show (!decide (e = e)) = false by simp]
    refine callEG (fun hg wc hG => eqPart_e (partG_nil wc) (partG_nil wc)) ?_
    refine runG ?_
    refine callEG (fun hg wc hG => eqPart_e (hiG wc (hG.here' (by (refine hpLe_cnt fun a => ?_; simp only [cntB_app, cntB_cons, cntB_nil]; omega)))) (hS.at_ wc (hG.here' (by (refine hpLe_cnt fun a => ?_; simp only [cntB_app, cntB_cons, cntB_nil]; omega))))) ?_
    refine runC ?_
    refine callV (R := fun u => u = .tuple #[]) (fun wc hG => spoilNil_e wc) ?_
    rintro _ rfl
    refine runC ?_
    refine callE (fun wc hG => eqPart_e (hiG wc (hG.here' (by (refine hpLe_cnt fun a => ?_; simp only [cntB_app, cntB_cons, cntB_nil]; omega)))) (hS.at_ wc (hG.here' (by (refine hpLe_cnt fun a => ?_; simp only [cntB_app, cntB_cons, cntB_nil]; omega))))) ?_
    refine runC ?_
    refine st_cond _ rfl (fun he => ?_) (fun he => ?_)
    · refine run ?_
      refine callB (fun wc hG => copyPartN_e (partG_nil wc) ⟨by simp, by simp, by simp, fun i hi => absurd hi (by simp)⟩) ?_
      rintro _ hn5 ⟨t1, t2, t3, f1, f2, f3, hx2, rfl, hxG2, hle5⟩
      refine ops_le (⟨X, s.cs, 26⟩ :: ⟨B, #[.slice p P.pages.length pc, .slice g P.guests.length gc, .slice o P.on.length oc, .slice (some ⟨b, of, none⟩) A.length ac], 29⟩ :: hx2) (by (refine hpLe_cnt fun a => ?_; have := HpLe.cnt hle5 a; simp only [cntB_app, cntB_cons, cntB_nil] at *; omega)) ?_
      refine run ?_
      exact nextS (k + 1, ⟨⟨[], [], []⟩, t1, t2, t3, f1, f2, f3, hx2⟩) (hm := by dsimp only; omega) ⟨by dsimp only; omega, ⟨by simp, by simp, by simp, fun i hi => absurd hi (by simp)⟩, hxG2⟩ (h2 := by simp only [CpD.cs]; (refine hpLe_cnt fun a => ?_; simp only [cntB_app, cntB_cons, cntB_nil]; omega))
    · refine run ?_
      exact nextS (k + 1, s) (hm := by dsimp only; omega) ⟨by dsimp only; omega, hS⟩ (h2 := by (refine hpLe_cnt fun a => ?_; simp only [cntB_app, cntB_cons, cntB_nil]; omega))
  | ok P2 =>
    simp only [yC, yB, eNo]
    dsimp only [okO] at ho1 ho2
    refine run ?_
    refine callE (fun wc hG => num18_e _ wc) ?_
    refine runG ?_
    rw [show (!decide ((0 : Int) = 0)) = false from rfl]
    refine callEG (fun hg wc hG => eqPart_e (ho1.partG (hG.here' (by (refine hpLe_cnt fun a => ?_; simp only [cntB_app, cntB_cons, cntB_nil]; omega)))) (ho2.partG (hG.here' (by (refine hpLe_cnt fun a => ?_; simp only [cntB_app, cntB_cons, cntB_nil]; omega))))) ?_
    refine runG ?_
    refine callEG (fun hg wc hG => eqPart_e (hiG wc (hG.here' (by (refine hpLe_cnt fun a => ?_; simp only [cntB_app, cntB_cons, cntB_nil]; omega)))) (hS.at_ wc (hG.here' (by (refine hpLe_cnt fun a => ?_; simp only [cntB_app, cntB_cons, cntB_nil]; omega))))) ?_
    refine runC ?_
    refine callM Y.in (⟨WV, #[Y2.pv P2, Y2.gv P2, Y2.ov P2], 26⟩ :: ⟨YV, #[Y.pv P2, Y.gv P2, Y.ov P2], 26⟩ :: ⟨IN, #[.slice r1 s.P.pages.length d1, .slice r2 s.P.guests.length d2, .slice r3 s.P.on.length d3], 26⟩ :: ⟨X, s.cs, 26⟩ :: ⟨B, #[.slice p P.pages.length pc, .slice g P.guests.length gc, .slice o P.on.length oc, .slice (some ⟨b, of, none⟩) A.length ac], 29⟩ :: (s.h ++ (hi ++ Y2.in))) (fun wc hG => spoilPart_e ho1 hG.hereN) (fun v hn5 hR => ?_) (by (refine perm_cnt fun a => ?_; simp only [cntB_app, cntB_cons, cntB_nil]; omega))
    obtain rfl := hR
    refine ops_le (⟨WV, #[Y2.pv P2, Y2.gv P2, Y2.ov P2], 26⟩ :: ⟨IN, #[.slice r1 s.P.pages.length d1, .slice r2 s.P.guests.length d2, .slice r3 s.P.on.length d3], 26⟩ :: ⟨X, s.cs, 26⟩ :: ⟨B, #[.slice p P.pages.length pc, .slice g P.guests.length gc, .slice o P.on.length oc, .slice (some ⟨b, of, none⟩) A.length ac], 29⟩ :: (s.h ++ (hi ++ Y2.in))) (by (refine hpLe_cnt fun a => ?_; simp only [cntB_app, cntB_cons, cntB_nil]; omega)) ?_
    refine runC ?_
    refine callE (fun wc hG => eqPart_e (hiG wc (hG.here' (by (refine hpLe_cnt fun a => ?_; simp only [cntB_app, cntB_cons, cntB_nil]; omega)))) (hS.at_ wc (hG.here' (by (refine hpLe_cnt fun a => ?_; simp only [cntB_app, cntB_cons, cntB_nil]; omega))))) ?_
    refine runC ?_
    refine callB (fun wc hG => copyPartN_e (ho2.partG (hG.here' (by (refine hpLe_cnt fun a => ?_; simp only [cntB_app, cntB_cons, cntB_nil]; omega)))) ho2.sm) ?_
    rintro _ hn6 ⟨t1, t2, t3, f1, f2, f3, hx2, rfl, hxG2, hle5⟩
    refine ops_le (⟨X, s.cs, 26⟩ :: ⟨B, #[.slice p P.pages.length pc, .slice g P.guests.length gc, .slice o P.on.length oc, .slice (some ⟨b, of, none⟩) A.length ac], 29⟩ :: hx2) (by (refine hpLe_cnt fun a => ?_; have := HpLe.cnt hle5 a; simp only [cntB_app, cntB_cons, cntB_nil] at *; omega)) ?_
    refine run ?_
    exact nextS (k + 1, ⟨P2, t1, t2, t3, f1, f2, f3, hx2⟩) (hm := by dsimp only; omega) ⟨by dsimp only; omega, ho2.sm, hxG2⟩ (h2 := by simp only [CpD.cs]; (refine hpLe_cnt fun a => ?_; simp only [cntB_app, cntB_cons, cntB_nil]; omega))
end Go.Proofs.YtjnndchkblnkgaaGreat
