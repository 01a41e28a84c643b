/- Layer 18 (part): Do, whatever the call: by what the call makes of an own partition. -/
import Derived.Test.YtdfkcjjbflcafaaGreatPartY
namespace Go.Proofs.YtdfkcjjbflcafaaGreat
open Go.RowKit
set_option linter.unusedVariables false
set_option linter.unusedSimpArgs false
set_option maxRecDepth 20000
attribute [local irreducible] Hy St Ops DH DHF
/-- What Do answers. -/
def DoR (r : Except Int PtD) (u : Value) (hn : Hp) : Prop := match r with
  | .error e => u = .tuple #[.agg #[.slice none 0 0, .slice none 0 0, .slice none 0 0], .int .i64 e]
  | .ok P => ∃ Y : Lay, u = .tuple #[.agg #[Y.pv P, Y.gv P, Y.ov P], .int .i64 0] ∧ OwnP P Y ∧ HpLe Y.in hn
section
variable {P : PtD} {w : World} {pv gv ov : Value}
theorem check_e (h : PartG w pv gv ov P) : Fn Tryz.prog 23 [.agg #[pv, gv, ov]].toArray w [] (fun u _ => u = .int .i64 (bif P.may then 0 else 1)) := by
  obtain ⟨p, pc, g, gc, o, oc, rfl, rfl, rfl, _⟩ := h.slices
  refine enter Tryz.func23 ?_
  refine run ?_
  intro B X
  refine callE (fun wc hG => mayB_e h hG mh) ?_
  refine run ?_
  refine st_cond _ rfl (fun hc => ?_) (fun hc => ?_)
  · refine run ?_
    refine fin1 ?_
    simp at hc; rw [hc]; rfl
  · refine run ?_
    refine fin1 ?_
    simp at hc; rw [hc]; rfl
set_option maxHeartbeats 4000000 in
theorem partDo_e (h : PartG w pv gv ov P) (hs : P.Small 1000) (cpu : Nat) (hc : cpu < P.on.length) (c : ClD) (r : Except Int PtD) (hr : ∀ e, r = .error e → e ≠ 0)
    (hH : P.may = true → (P.st cpu).vm = 0 → ∀ Y bx w, OwnP P Y → HereN (Y.hd P bx 54) w → Fn Tryz.prog 27 [.pointer (some ⟨bx, 0, none⟩), .int .i64 (cpu : Int), clV c].toArray w ((Y.hd P bx 54).map (·.b)) (CallR bx 54 r))
    (hU : P.may = true → (P.st cpu).vm ≠ 0 → ∀ Y bx w, OwnP P Y → HereN (Y.hd P bx 54) w → Fn Tryz.prog 26 [.pointer (some ⟨bx, 0, none⟩), .int .i64 (cpu : Int), clV c].toArray w ((Y.hd P bx 54).map (·.b)) (CallR bx 54 r)) :
    Fn Tryz.prog 16 [.agg #[pv, gv, ov], .int .i64 (cpu : Int), clV c].toArray w [] (DoR (bif P.may then r else .error 1)) := by
  obtain ⟨p, pc, g, gc, o, oc, rfl, rfl, rfl, _⟩ := h.slices
  have hlo := hs.on
  refine enter Tryz.func16 ?_
  refine run ?_
  intro B C R
  refine run ?_
  refine callE (fun wc hG => check_e (h.good hG)) ?_
  cases hm : P.may
  · refine runC ?_
    refine finA1 ?_
    rfl
  have hb : PtD.btw (cpu : Int) 0 ((P.on.length : Int) - 1) = true := by simp only [PtD.btw, Bool.and_eq_true, decide_eq_true_eq]; omega
  refine runC ?_
  refine callEG (fun hg wc hG => between_e _ _ _ wc) ?_
  rw [hb]
  refine runC ?_
  refine callB (fun wc hG => copied_e (h.good hG) (may_len hm) hs) ?_
  rintro _ hn ⟨Y, bx, rfl, hO, hle⟩
  refine ops_le (⟨R, #[.slice none 0 0, .slice none 0 0, .slice none 0 0], 26⟩ :: ⟨C, #[.int .i64 c.kind, .int .i64 c.vm, .int .i64 c.frame, .int .i64 c.mid, .int .i64 c.vcpu, .int .i64 c.ccpu], 33⟩ :: ⟨B, #[.slice p P.pages.length pc, .slice g P.guests.length gc, .slice o P.on.length oc], 26⟩ :: Y.hd P bx 54) (by rw [hdY]; (refine hpLe_cnt fun a => ?_; have := HpLe.cnt hle a; simp only [cntB_app, cntB_cons, cntB_nil] at *; omega)) ?_
  obtain ⟨L, e1, e2, e3, hV⟩ := h.open (may_len hm)
  cases e1
  cases e2
  cases e3
  have hst := hV.st0 hc
  refine runC ?_
  refine st_cond _ rfl (fun hv => ?_) (fun hv => ?_)
  · simp only [decide_eq_true_eq] at hv
    refine runC ?_
    refine callFM (fs := [.pointer (some ⟨bx, 0, none⟩)]) (vs := [.int .i64 (cpu : Int), clV c]) (us := []) (Y.hd P bx 54) [⟨R, #[.slice none 0 0, .slice none 0 0, .slice none 0 0], 26⟩, ⟨C, #[.int .i64 c.kind, .int .i64 c.vm, .int .i64 c.frame, .int .i64 c.mid, .int .i64 c.vcpu, .int .i64 c.ccpu], 33⟩, ⟨B, #[.slice (some ⟨L.pb, L.po, none⟩) P.pages.length L.pc, .slice (some ⟨L.gb, L.go, none⟩) P.guests.length L.gc, .slice (some ⟨L.ob, L.oo, none⟩) P.on.length L.oc], 26⟩] (fun wc hG => hH hm hv Y bx wc hO hG.hereN) (fun v hn2 hR => ?_) (by rw [hdY]; (refine perm_cnt fun a => ?_; simp only [cntB_app, cntB_cons, cntB_nil]; omega))
    cases hrr : r with
    | error e =>
      rw [hrr] at hR
      obtain rfl : v = .int .i64 e := hR
      have he : decide (e = 0) = false := by simp [hr e hrr]
      refine ops_le [⟨R, #[.slice none 0 0, .slice none 0 0, .slice none 0 0], 26⟩] (by (refine hpLe_cnt fun a => ?_; simp only [cntB_app, cntB_cons, cntB_nil]; omega)) ?_
      refine run ?_
      refine st_cond _ rfl (fun hp => ?_) (fun hp => by rw [he] at hp; cases hp)
      refine run ?_
      refine finA1 ?_
      rfl
    | ok P' =>
      rw [hrr] at hR
      obtain ⟨rfl, Y', hO', hle'⟩ := hR
      refine ops_le (⟨R, #[.slice none 0 0, .slice none 0 0, .slice none 0 0], 26⟩ :: Y'.hd P' bx 54) (by rw [hdY]; rw [hdY] at hle'; (refine hpLe_cnt fun a => ?_; have := HpLe.cnt hle' a; simp only [cntB_app, cntB_cons, cntB_nil] at *; omega)) ?_
      refine runC ?_
      refine finA1 ?_
      refine ⟨Y', rfl, hO', ?_⟩
      simp only [hdY]
      (refine hpLe_cnt fun a => ?_; simp only [cntB_app, cntB_cons, cntB_nil]; omega)
  · simp only [decide_eq_false_iff_not] at hv
    refine runC ?_
    refine callFM (fs := [.pointer (some ⟨bx, 0, none⟩)]) (vs := [.int .i64 (cpu : Int), clV c]) (us := []) (Y.hd P bx 54) [⟨R, #[.slice none 0 0, .slice none 0 0, .slice none 0 0], 26⟩, ⟨C, #[.int .i64 c.kind, .int .i64 c.vm, .int .i64 c.frame, .int .i64 c.mid, .int .i64 c.vcpu, .int .i64 c.ccpu], 33⟩, ⟨B, #[.slice (some ⟨L.pb, L.po, none⟩) P.pages.length L.pc, .slice (some ⟨L.gb, L.go, none⟩) P.guests.length L.gc, .slice (some ⟨L.ob, L.oo, none⟩) P.on.length L.oc], 26⟩] (fun wc hG => hU hm hv Y bx wc hO hG.hereN) (fun v hn2 hR => ?_) (by rw [hdY]; (refine perm_cnt fun a => ?_; simp only [cntB_app, cntB_cons, cntB_nil]; omega))
    cases hrr : r with
    | error e =>
      rw [hrr] at hR
      obtain rfl : v = .int .i64 e := hR
      have he : decide (e = 0) = false := by simp [hr e hrr]
      refine ops_le [⟨R, #[.slice none 0 0, .slice none 0 0, .slice none 0 0], 26⟩] (by (refine hpLe_cnt fun a => ?_; simp only [cntB_app, cntB_cons, cntB_nil]; omega)) ?_
      refine run ?_
      refine st_cond _ rfl (fun hp => ?_) (fun hp => by rw [he] at hp; cases hp)
      refine run ?_
      refine finA1 ?_
      rfl
    | ok P' =>
      rw [hrr] at hR
      obtain ⟨rfl, Y', hO', hle'⟩ := hR
      refine ops_le (⟨R, #[.slice none 0 0, .slice none 0 0, .slice none 0 0], 26⟩ :: Y'.hd P' bx 54) (by rw [hdY]; rw [hdY] at hle'; (refine hpLe_cnt fun a => ?_; have := HpLe.cnt hle' a; simp only [cntB_app, cntB_cons, cntB_nil] at *; omega)) ?_
      refine runC ?_
      refine finA1 ?_
      refine ⟨Y', rfl, hO', ?_⟩
      simp only [hdY]
      (refine hpLe_cnt fun a => ?_; simp only [cntB_app, cntB_cons, cntB_nil]; omega)
set_option maxHeartbeats 4000000 in
theorem refDo_e (h : PartG w pv gv ov P) (hs : P.Small 1000) (hm : P.may = true) (cpu : Nat) (hc : cpu < P.on.length) (c : ClD) (r : Except Int PtD) (hr : ∀ e, r = .error e → e ≠ 0)
    (hH : (P.st cpu).vm = 0 → ∀ Y bx w, OwnP P Y → HereN (Y.hd P bx 26) w → Fn Tryz.prog 33 [.pointer (some ⟨bx, 0, none⟩), .int .i64 (cpu : Int), clV c].toArray w ((Y.hd P bx 26).map (·.b)) (CallR bx 26 r))
    (hU : (P.st cpu).vm ≠ 0 → ∀ Y bx w, OwnP P Y → HereN (Y.hd P bx 26) w → Fn Tryz.prog 34 [.pointer (some ⟨bx, 0, none⟩), .int .i64 (cpu : Int), clV c].toArray w ((Y.hd P bx 26).map (·.b)) (CallR bx 26 r)) :
    Fn Tryz.prog 18 [.agg #[pv, gv, ov], .int .i64 (cpu : Int), clV c].toArray w [] (DoR r) := by
  have hlo := hs.on
  obtain ⟨L, rfl, rfl, rfl, hV⟩ := h.open (may_len hm)
  have hst := hV.st0 hc
  refine enter Tryz.func18 ?_
  refine run ?_
  intro B C R
  refine run ?_
  refine callB (fun wc hG => copyPart_e (h.good hG) (may_len hm) hs) ?_
  rintro _ hn ⟨Y, rfl, hO, hle⟩
  refine ops_le (⟨R, #[.slice none 0 0, .slice none 0 0, .slice none 0 0], 26⟩ :: ⟨C, #[.int .i64 c.kind, .int .i64 c.vm, .int .i64 c.frame, .int .i64 c.mid, .int .i64 c.vcpu, .int .i64 c.ccpu], 33⟩ :: ⟨B, #[L.pv P.pages.length, L.gv P.guests.length, L.ov P.on.length], 26⟩ :: Y.in) (by (refine hpLe_cnt fun a => ?_; have := HpLe.cnt hle a; simp only [cntB_app, cntB_cons, cntB_nil] at *; omega)) ?_
  refine run ?_
  intro X
  refine runC ?_
  refine st_cond _ rfl (fun hv => ?_) (fun hv => ?_)
  · simp only [decide_eq_true_eq] at hv
    refine runC ?_
    refine callM (Y.hd P X 26) [⟨R, #[.slice none 0 0, .slice none 0 0, .slice none 0 0], 26⟩, ⟨C, #[.int .i64 c.kind, .int .i64 c.vm, .int .i64 c.frame, .int .i64 c.mid, .int .i64 c.vcpu, .int .i64 c.ccpu], 33⟩, ⟨B, #[L.pv P.pages.length, L.gv P.guests.length, L.ov P.on.length], 26⟩] (fun wc hG => hH hv Y X wc hO hG.hereN) (fun v hn2 hR => ?_) (by rw [hdY]; (refine perm_cnt fun a => ?_; simp only [cntB_app, cntB_cons, cntB_nil]; omega))
    cases hrr : r with
    | error e =>
      rw [hrr] at hR
      obtain rfl : v = .int .i64 e := hR
      have he : decide (e = 0) = false := by simp [hr e hrr]
      refine ops_le [⟨R, #[.slice none 0 0, .slice none 0 0, .slice none 0 0], 26⟩] (by (refine hpLe_cnt fun a => ?_; simp only [cntB_app, cntB_cons, cntB_nil]; omega)) ?_
      refine run ?_
      refine st_cond _ rfl (fun hp => ?_) (fun hp => by rw [he] at hp; cases hp)
      refine run ?_
      refine finA1 ?_
      rfl
    | ok P' =>
      rw [hrr] at hR
      obtain ⟨rfl, Y', hO', hle'⟩ := hR
      refine ops_le (⟨R, #[.slice none 0 0, .slice none 0 0, .slice none 0 0], 26⟩ :: Y'.hd P' X 26) (by rw [hdY]; rw [hdY] at hle'; (refine hpLe_cnt fun a => ?_; have := HpLe.cnt hle' a; simp only [cntB_app, cntB_cons, cntB_nil] at *; omega)) ?_
      refine runC ?_
      refine finA1 ?_
      refine ⟨Y', rfl, hO', ?_⟩
      simp only [hdY]
      (refine hpLe_cnt fun a => ?_; simp only [cntB_app, cntB_cons, cntB_nil]; omega)
  · simp only [decide_eq_false_iff_not] at hv
    refine runC ?_
    refine callM (Y.hd P X 26) [⟨R, #[.slice none 0 0, .slice none 0 0, .slice none 0 0], 26⟩, ⟨C, #[.int .i64 c.kind, .int .i64 c.vm, .int .i64 c.frame, .int .i64 c.mid, .int .i64 c.vcpu, .int .i64 c.ccpu], 33⟩, ⟨B, #[L.pv P.pages.length, L.gv P.guests.length, L.ov P.on.length], 26⟩] (fun wc hG => hU hv Y X wc hO hG.hereN) (fun v hn2 hR => ?_) (by rw [hdY]; (refine perm_cnt fun a => ?_; simp only [cntB_app, cntB_cons, cntB_nil]; omega))
    cases hrr : r with
    | error e =>
      rw [hrr] at hR
      obtain rfl : v = .int .i64 e := hR
      have he : decide (e = 0) = false := by simp [hr e hrr]
      refine ops_le [⟨R, #[.slice none 0 0, .slice none 0 0, .slice none 0 0], 26⟩] (by (refine hpLe_cnt fun a => ?_; simp only [cntB_app, cntB_cons, cntB_nil]; omega)) ?_
      refine run ?_
      refine st_cond _ rfl (fun hp => ?_) (fun hp => by rw [he] at hp; cases hp)
      refine run ?_
      refine finA1 ?_
      rfl
    | ok P' =>
      rw [hrr] at hR
      obtain ⟨rfl, Y', hO', hle'⟩ := hR
      refine ops_le (⟨R, #[.slice none 0 0, .slice none 0 0, .slice none 0 0], 26⟩ :: Y'.hd P' X 26) (by rw [hdY]; rw [hdY] at hle'; (refine hpLe_cnt fun a => ?_; have := HpLe.cnt hle' a; simp only [cntB_app, cntB_cons, cntB_nil] at *; omega)) ?_
      refine runC ?_
      refine finA1 ?_
      refine ⟨Y', rfl, hO', ?_⟩
      simp only [hdY]
      (refine hpLe_cnt fun a => ?_; simp only [cntB_app, cntB_cons, cntB_nil]; omega)
end
end Go.Proofs.YtdfkcjjbflcafaaGreat
