/- Layer 18 (part): PartErrors. -/
import Derived.Test.YtjnndchkblnkgaaPtX
namespace Go.Proofs.Ytjnndchkblnkgaa
open Go.RowKit
set_option linter.unusedVariables false
set_option linter.unusedSimpArgs false
set_option maxRecDepth 20000
namespace PtD
def errCalls : List ClD := [⟨1, 0, 15, 0, 0, 0⟩, ⟨1, 0, 40, 0, 0, 0⟩, ⟨1, 5, 16, 0, 0, 0⟩, ⟨1, 1, 16, 0, 0, 0⟩, ⟨5, 0, 36, 0, 0, 0⟩, ⟨5, 0, 16, 0, 0, 0⟩, ⟨5, 0, 18, 0, 0, 0⟩, ⟨1, 0, 16, 0, 0, 0⟩, ⟨3, 1, 21, 16, 0, 0⟩, ⟨3, 1, 21, 0, 0, 0⟩, ⟨3, 1, 22, 0, 0, 0⟩, ⟨1, 0, 22, 0, 0, 0⟩, ⟨1, 0, 22, 0, 0, 0⟩, ⟨2, 0, 22, 0, 0, 0⟩, ⟨2, 0, 22, 0, 0, 0⟩, ⟨2, 0, 21, 0, 0, 0⟩, ⟨4, 0, 21, 0, 0, 0⟩, ⟨8, 1, 0, 0, 0, 0⟩, ⟨7, 1, 0, 0, 0, 0⟩, ⟨7, 1, 0, 0, 0, 0⟩, ⟨7, 1, 0, 0, 0, 0⟩, ⟨8, 1, 0, 0, 0, 0⟩, ⟨1, 0, 23, 0, 0, 0⟩, ⟨10, 0, 0, 1, 0, 0⟩, ⟨11, 0, 0, 0, 0, 0⟩, ⟨10, 0, 0, 0, 0, 0⟩, ⟨10, 0, 0, 0, 0, 0⟩, ⟨11, 0, 0, 0, 0, 0⟩, ⟨10, 0, 0, 99, 0, 0⟩]
def errWant : List Int := [2, 2, 2, 3, 2, 0, 7, 7, 2, 0, 4, 0, 4, 0, 6, 7, 7, 3, 0, 0, 5, 0, 9, 3, 6, 0, 4, 0, 2]
instance : Inhabited ClD := ⟨⟨0, 0, 0, 0, 0, 0⟩⟩
def next (P : PtD) (cpu : Nat) (c : ClD) : PtD := match P.doL cpu c with
  | .ok P' => P'
  | .error _ => P
def told : Except Int PtD → Int
  | .ok _ => 0
  | .error e => e
def errSt : Nat → PtD
  | 0 => bootL 40 2
  | k + 1 => next (errSt k) 0 (errCalls.getD k default)
theorem next_ok {P : PtD} {cpu : Nat} {c : ClD} (h : Ok2 P) (hc : cpu < P.on.length) : Ok2 (P.next cpu c) ∧ (P.next cpu c).on.length = P.on.length := by
  unfold next
  cases he : P.doL cpu c with
  | ok P' => exact ⟨doL_ok h hc he, (doL_len he).2⟩
  | error e => exact ⟨h, rfl⟩
theorem errSt_ok (k : Nat) : Ok2 (errSt k) ∧ (errSt k).on.length = 2 := by
  induction k with
  | zero => exact ⟨may_ok2.1 (by decide +kernel), by decide +kernel⟩
  | succ k ih =>
    have := next_ok (cpu := 0) (c := errCalls.getD k default) ih.1 (by omega)
    exact ⟨this.1, by rw [errSt, this.2, ih.2]⟩
theorem err_at : ∀ k, k < 29 → told ((errSt k).doL 0 (errCalls.getD k default)) = errWant.getD k 0 := by decide +kernel
theorem told_err {r : Except Int PtD} {e : Int} (h : told r = e) (he : e ≠ 0) : r = .error e := by
  cases r with
  | ok P => exact absurd h.symm he
  | error e2 => rw [show e2 = e from h]
theorem err_wf : ∀ k, k < 29 → (errCalls.getD k default).Wf := by
  intro k hk
  have : ∀ k, k < 29 → (I64 (errCalls.getD k default).vm ∧ I64 (errCalls.getD k default).frame ∧ I64 (errCalls.getD k default).mid ∧ I64 (errCalls.getD k default).vcpu) := by unfold I64; decide +kernel
  obtain ⟨a, b, c, d⟩ := this k hk
  exact ⟨a, b, c, d⟩
theorem err_last : told ((errSt 29).doL 1 ⟨8, 1, 0, 0, 0, 0⟩) = 6 ∧ told ((errSt 29).doL 1 ⟨6, 1, 0, 0, 0, 0⟩) = 6 ∧ ((errSt 29).st 1).vm = 0 := by decide +kernel
end PtD
abbrev clL (c : ClD) : List Value := [.int .i64 c.kind, .int .i64 c.vm, .int .i64 c.frame, .int .i64 c.mid, .int .i64 c.vcpu, .int .i64 c.ccpu]
theorem cl_len {xs : List ClD} : ∀ c ∈ xs.map clL, c.length = 6 := fun c hc => by obtain ⟨x, _, rfl⟩ := List.mem_map.1 hc; rfl
theorem cl_at {xs : List ClD} {k : Nat} (hk : k < xs.length) : (xs.map clL)[k]? = some (clL (xs.getD k default)) := by
  rw [List.getElem?_map, List.getD_eq_getElem?_getD, List.getElem?_eq_getElem hk]; rfl
def errC : Array Value := (PtD.errCalls.map clL).flatten.toArray
def errW : Array Value := (PtD.errWant.map fun x => Value.int .i64 x).toArray
theorem small_boot : (bootL 40 2).Small 1000 := ⟨by decide, by decide, by decide, fun i hi => by
  have : i < 4 := hi
  rcases i with _ | _ | _ | _ | i
  · decide
  · decide
  · decide
  · decide
  · omega⟩
theorem errRow : Row 0 29 errC 6 29 (PtD.errCalls.map clL).flatten := ⟨rfl, by decide, by decide, rfl, rfl⟩
theorem errW_at {k : Nat} (hk : k < 29) : nth errW.toList k = some (.int .i64 (PtD.errWant.getD k 0)) := by
  have hk' : k < PtD.errWant.length := hk
  rw [nth_eq, errW, List.getElem?_toArray, List.getElem?_map, List.getD_eq_getElem?_getD, List.getElem?_eq_getElem hk']; rfl
attribute [local irreducible] Hy St Ops DH DHF
set_option maxHeartbeats 8000000 in
theorem errors_e {w : World} {v : Value} {P : PtD} {A : List ActD} (h : ScrG w v P A) : Fn Try.prog 5 [v].toArray w [] (fun u _ => u = .bool true) := by
  obtain ⟨⟨pv, gv, ov, lv, rfl, hp, hl⟩, hwf⟩ := h
  have hp' := hp
  obtain ⟨p, pc, g, gc, o, oc, rfl, rfl, rfl, hl1, hl2, hl3⟩ := hp.slices
  obtain ⟨a, ac, rfl, hane, hal⟩ := hl.opened
  refine enter Try.func5 ?_
  refine run ?_
  intro B
  refine run ?_
  refine callB (fun wc hG => boot_e 40 2 wc) ?_
  intro v hn hb
  obtain ⟨pv, gv, ov, rfl, hpB⟩ : ∃ pv gv ov, v = .tuple #[.agg #[pv, gv, ov], .int .i64 0] ∧ ∀ w, Here hn w → PartG w pv gv ov (bootL 40 2) := hb
  refine opsW fun wn hGn => ?_
  obtain ⟨p2, pc2, g2, gc2, o2, oc2, rfl, rfl, rfl, _⟩ := (hpB wn (hGn.lie fun e he => by simp [he])).slices
  refine run ?_
  intro X
  refine ops_le (⟨X, #[.slice p2 (bootL 40 2).pages.length pc2, .slice g2 (bootL 40 2).guests.length gc2, .slice o2 (bootL 40 2).on.length oc2], 26⟩ :: ⟨B, #[.slice p P.pages.length pc, .slice g P.guests.length gc, .slice o P.on.length oc, .slice a A.length ac], 29⟩ :: hn) (by (refine hpLe_cnt fun a => ?_; simp only [cntB_app, cntB_cons, cntB_nil]; omega)) ?_
  refine run ?_
  refine callE (fun wc hG => num18_e _ wc) ?_
  refine run ?_
  refine st_cond _ rfl (fun hq => absurd hq (by simp)) (fun hq => ?_)
  refine run ?_
  intro C W
  refine st_le (⟨W, errW, 3⟩ :: ⟨C, errC, 37⟩ :: ⟨X, #[.slice p2 (bootL 40 2).pages.length pc2, .slice g2 (bootL 40 2).guests.length gc2, .slice o2 (bootL 40 2).on.length oc2], 26⟩ :: ⟨B, #[.slice p P.pages.length pc, .slice g P.guests.length gc, .slice o P.on.length oc, .slice a A.length ac], 29⟩ :: hn) (HpLe.refl _) ?_
  have b0 := PtD.errSt_ok 0
  have hsz : errC.size = 174 := rfl
  have hsw : errW.size = 29 := rfl
  refine loopS (σ := Nat × KpD) (fun s => [(7, .int .i64 (s.1 : Int))]) (fun s => ⟨X, s.2.cs, 26⟩ :: ⟨W, errW, 3⟩ :: ⟨C, errC, 37⟩ :: ⟨B, #[.slice p P.pages.length pc, .slice g P.guests.length gc, .slice o P.on.length oc, .slice a A.length ac], 29⟩ :: s.2.h) (fun s => s.1 ≤ 29 ∧ s.2.P = PtD.errSt s.1 ∧ s.2.Ok w) (fun s => 29 - s.1) (0, ⟨bootL 40 2, p2, g2, o2, pc2, gc2, oc2, hn⟩) ⟨by dsimp only; omega, rfl, PtD.may_ok2.2 b0.1, small_boot, fun wc hh hG hle => hpB wc (hG.here' hle)⟩ (hh := by simp only [KpD.cs]; (refine hpLe_cnt fun a => ?_; simp only [cntB_app, cntB_cons, cntB_nil]; omega)) ?_
  rintro ⟨k, s⟩ m hm ⟨hk, hsP, hS⟩
  dsimp only at hm hk hsP hS ⊢
  refine run ?_
  refine st_cond _ rfl (fun hc2 => ?_) (fun hc2 => ?_)
  · have hlt : k < 29 := by simp at hc2; omega
    have hrow := errRow.cut cl_len (cl_at (show k < PtD.errCalls.length from hlt))
    have hwk := errW_at hlt
    generalize hcc : PtD.errCalls.getD k default = cc at hrow
    refine run ?_
    have hon := PtD.errSt_ok k
    have hat := PtD.err_at k hlt
    have hnext : PtD.errSt (k + 1) = (PtD.errSt k).next 0 cc := by rw [PtD.errSt, hcc]
    have hcw : cc.Wf := by rw [← hcc]; exact PtD.err_wf k hlt
    rw [hcc, ← hsP] at hat
    rw [← hsP] at hnext hon
    have hD : ∀ wc hh, Good w [] hh wc → HpLe s.h hh → Fn Try.prog 8 [.agg #[.slice s.q1 s.P.pages.length s.c1, .slice s.q2 s.P.guests.length s.c2, .slice s.q3 s.P.on.length s.c3], .int .i64 0, clV cc].toArray wc [] (DoR (s.P.doL 0 cc)) := by
      intro wc hh hG hle
      have := partDoL_e (hS.at_ wc hh hG hle) hS.sm 0 (by omega) cc hcw
      rw [hS.ok] at this
      exact this
    refine stW fun wn hGn => ?_
    have hsome := (hD wn _ hGn (by (refine hpLe_cnt fun a => ?_; simp only [cntB_app, cntB_cons, cntB_nil]; omega))).some
    refine late 10 8 ?_
    refine drawMA 10 [0, 1, 2, 3, 4] [5, 9] [6, 7, 8] ?_
    refine runS ?_
    refine eCall (fun wc hG => hD wc _ hG (by (refine hpLe_cnt fun a => ?_; simp only [cntB_app, cntB_cons, cntB_nil]; omega))) hsome ?_
    refine eAlloc ?_
    refine eNil ?_
    rintro _ _ ⟨Yv, rfl, rfl⟩ v hn2 hv
    refine dMove ?_
    have hne := PtD.doL_ne s.P 0 cc
    have hok2 : ∀ P2, s.P.doL 0 cc = .ok P2 → PtD.Ok2 P2 ∧ s.P.next 0 cc = P2 := fun P2 e => ⟨PtD.doL_ok (PtD.may_ok2.1 hS.ok) (by omega) e, by rw [PtD.next, e]⟩
    have herr : ∀ e, s.P.doL 0 cc = .error e → s.P.next 0 cc = s.P := fun e he => by rw [PtD.next, he]
    generalize s.P.doL 0 cc = r at hv hne hok2 hat herr
    cases r with
    | error e =>
      obtain rfl : v = .tuple #[.agg #[.slice none 0 0, .slice none 0 0, .slice none 0 0], .int .i64 e] := hv
      have he0 := hne e rfl
      have hwe : e = PtD.errWant.getD k 0 := hat
      rw [← hwe] at hwk
      refine dExtract ?_
      refine dExtract ?_
      refine dNil ?_
      refine opsF ?_
      simp only [List.cons_append, List.nil_append, List.append_nil]
      refine ops_le (⟨Yv, #[.slice none 0 0, .slice none 0 0, .slice none 0 0], 26⟩ :: ⟨X, s.cs, 26⟩ :: ⟨W, errW, 3⟩ :: ⟨C, errC, 37⟩ :: ⟨B, #[.slice p P.pages.length pc, .slice g P.guests.length gc, .slice o P.on.length oc, .slice a A.length ac], 29⟩ :: s.h) (by (refine hpLe_cnt fun a => ?_; simp only [cntB_app, cntB_cons, cntB_nil]; omega)) ?_
      refine run ?_
      refine drawAll ?_
      refine runD ?_
      refine callD (fun wc hG => num18_e _ wc) ?_
      refine runD ?_
      refine run ?_
      refine st_cond _ rfl (fun hq => absurd hq (by simp)) (fun hq => ?_)
      refine run ?_
      refine st_cond _ rfl (fun hq => absurd hq (by simp [he0])) (fun hq => ?_)
      refine run ?_
      exact nextS (k + 1, s) (hm := by dsimp only; omega) ⟨by dsimp only; omega, by dsimp only; rw [hnext, herr e rfl], hS⟩ (h2 := by (refine hpLe_cnt fun a => ?_; simp only [cntB_app, cntB_cons, cntB_nil]; omega))
    | ok P2 =>
      obtain ⟨Y, rfl, hO, hle⟩ := hv
      obtain ⟨h2, hpn⟩ := hok2 P2 rfl
      have hm2 := PtD.may_ok2.2 h2
      have hsm2 := hO.sm
      have hwe : 0 = PtD.errWant.getD k 0 := hat
      rw [← hwe] at hwk
      refine dExtract ?_
      refine dExtract ?_
      refine dNil ?_
      refine opsF ?_
      simp only [List.cons_append, List.nil_append, List.append_nil]
      refine ops_le (⟨Yv, #[.slice none 0 0, .slice none 0 0, .slice none 0 0], 26⟩ :: ⟨X, s.cs, 26⟩ :: ⟨W, errW, 3⟩ :: ⟨C, errC, 37⟩ :: ⟨B, #[.slice p P.pages.length pc, .slice g P.guests.length gc, .slice o P.on.length oc, .slice a A.length ac], 29⟩ :: (s.h ++ Y.in)) (by (refine hpLe_cnt fun a => ?_; have := HpLe.cnt hle a; simp only [cntB_app, cntB_cons, cntB_nil] at *; omega)) ?_
      refine run ?_
      refine drawAll ?_
      refine runD ?_
      refine callD (fun wc hG => num18_e _ wc) ?_
      refine runD ?_
      refine run ?_
      refine st_cond _ rfl (fun hq => absurd hq (by simp)) (fun hq => ?_)
      refine run ?_
      refine st_cond _ rfl (fun hq => ?_) (fun hq => absurd hq (by simp))
      refine run ?_
      exact nextS (k + 1, ⟨P2, some ⟨Y.pb, 0, none⟩, some ⟨Y.gb, 0, none⟩, some ⟨Y.ob, 0, none⟩, Y.pcap, Y.gcap, Y.ocap, Y.in⟩) (hm := by dsimp only; omega) ⟨by dsimp only; omega, by dsimp only; rw [hnext, hpn], hm2, hsm2, fun wc hh hG hle2 => hO.partG (hG.here' hle2)⟩ (h2 := by dsimp only [KpD.cs, Lay.pv, Lay.gv, Lay.ov, Lay.in]; (refine hpLe_cnt fun a => ?_; simp only [cntB_app, cntB_cons, cntB_nil]; omega))
  · have hk29 : k = 29 := by simp at hc2; omega
    subst hk29
    obtain ⟨l1, l2, l3⟩ := PtD.err_last
    rw [← hsP] at l1 l2 l3
    refine run ?_
    have hon := (PtD.errSt_ok 29).2
    rw [← hsP] at hon
    have hD : ∀ wc hh (c : ClD), c.Wf → PtD.told (s.P.doL 1 c) = 6 → Good w [] hh wc → HpLe s.h hh → Fn Try.prog 8 [.agg #[.slice s.q1 s.P.pages.length s.c1, .slice s.q2 s.P.guests.length s.c2, .slice s.q3 s.P.on.length s.c3], .int .i64 1, clV c].toArray wc [] (DoR (.error 6)) := by
      intro wc hh c hcw ht hG hle
      have := partDoL_e (hS.at_ wc hh hG hle) hS.sm 1 (by omega) c hcw
      rw [hS.ok, PtD.told_err ht (by decide)] at this
      exact this
    have hT : ∀ wc hh, Good w [] hh wc → HpLe s.h hh → Fn Try.prog 15 [.agg #[.slice s.q1 s.P.pages.length s.c1, .slice s.q2 s.P.guests.length s.c2, .slice s.q3 s.P.on.length s.c3], .int .i64 1].toArray wc [] (DoR (.error 6)) := by
      intro wc hh hG hle
      have := partStop_e (hS.at_ wc hh hG hle) hS.sm hS.ok 1 (by omega)
      rw [l3] at this
      exact this
    have w1 : ClD.Wf ⟨8, 1, 0, 0, 0, 0⟩ := ⟨⟨by decide, by decide⟩, ⟨by decide, by decide⟩, ⟨by decide, by decide⟩, ⟨by decide, by decide⟩⟩
    have w2 : ClD.Wf ⟨6, 1, 0, 0, 0, 0⟩ := ⟨⟨by decide, by decide⟩, ⟨by decide, by decide⟩, ⟨by decide, by decide⟩, ⟨by decide, by decide⟩⟩
    refine callB (R := DoR (.error 6)) (fun wc hG => hD wc _ ⟨8, 1, 0, 0, 0, 0⟩ w1 l1 hG (by (refine hpLe_cnt fun a => ?_; simp only [cntB_app, cntB_cons, cntB_nil]; omega))) ?_
    rintro v1 n1 hv1
    obtain rfl : v1 = .tuple #[.agg #[.slice none 0 0, .slice none 0 0, .slice none 0 0], .int .i64 6] := hv1
    refine ops_le (⟨X, s.cs, 26⟩ :: ⟨B, #[.slice p P.pages.length pc, .slice g P.guests.length gc, .slice o P.on.length oc, .slice a A.length ac], 29⟩ :: s.h) (by (refine hpLe_cnt fun a => ?_; simp only [cntB_app, cntB_cons, cntB_nil]; omega)) ?_
    refine run ?_
    intro Z1
    refine callB (R := DoR (.error 6)) (fun wc hG => hD wc _ ⟨6, 1, 0, 0, 0, 0⟩ w2 l2 hG (by (refine hpLe_cnt fun a => ?_; simp only [cntB_app, cntB_cons, cntB_nil]; omega))) ?_
    rintro v2 n2 hv2
    obtain rfl : v2 = .tuple #[.agg #[.slice none 0 0, .slice none 0 0, .slice none 0 0], .int .i64 6] := hv2
    refine ops_le (⟨Z1, #[.slice none 0 0, .slice none 0 0, .slice none 0 0], 26⟩ :: ⟨X, s.cs, 26⟩ :: ⟨B, #[.slice p P.pages.length pc, .slice g P.guests.length gc, .slice o P.on.length oc, .slice a A.length ac], 29⟩ :: s.h) (by (refine hpLe_cnt fun a => ?_; simp only [cntB_app, cntB_cons, cntB_nil]; omega)) ?_
    refine run ?_
    intro Z2
    refine callB (R := DoR (.error 6)) (fun wc hG => hT wc _ hG (by (refine hpLe_cnt fun a => ?_; simp only [cntB_app, cntB_cons, cntB_nil]; omega))) ?_
    rintro v3 n3 hv3
    obtain rfl : v3 = .tuple #[.agg #[.slice none 0 0, .slice none 0 0, .slice none 0 0], .int .i64 6] := hv3
    refine ops_le (⟨Z2, #[.slice none 0 0, .slice none 0 0, .slice none 0 0], 26⟩ :: ⟨X, s.cs, 26⟩ :: ⟨B, #[.slice p P.pages.length pc, .slice g P.guests.length gc, .slice o P.on.length oc, .slice a A.length ac], 29⟩ :: s.h) (by (refine hpLe_cnt fun a => ?_; simp only [cntB_app, cntB_cons, cntB_nil]; omega)) ?_
    refine run ?_
    intro Z3
    refine callE (fun wc hG => num18_e _ wc) ?_
    refine runC ?_
    refine callEG (fun hg wc hG => num18_e _ wc) ?_
    refine runC ?_
    refine callEG (fun hg wc hG => num18_e _ wc) ?_
    refine runG ?_
    refine callEG (fun hg wc hG => wakes_e wc) ?_
    refine runG ?_
    refine fin1 ?_
    simp
end Go.Proofs.Ytjnndchkblnkgaa
