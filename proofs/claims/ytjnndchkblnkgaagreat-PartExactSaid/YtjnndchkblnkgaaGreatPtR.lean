/- Layer 18 (part): a machine ended: the reference's, and both. -/
import Derived.Test.YtjnndchkblnkgaaGreatPtQ
import Derived.Test.YtjnndchkblnkgaaGreatPtN
namespace Go.Proofs.YtjnndchkblnkgaaGreat
open Go.RowKit
set_option linter.unusedVariables false
set_option linter.unusedSimpArgs false
set_option maxRecDepth 20000
attribute [local irreducible] Hy St Ops DH DHF
namespace PtD
def sweptR (vm first : Int) (f : Nat) (x : PgD) : PgD := bif decide (first ≤ f) && decide ((f : Int) < first + 5) then ⟨0, (swept vm x).wit⟩ else swept vm x
def sweepR (P : PtD) (vm first : Int) : Nat → PtD
  | 0 => P
  | k + 1 => (sweepR P vm first k).setPg k (sweptR vm first k (P.pg k))
theorem sweepR_len (P : PtD) (vm first : Int) (k : Nat) : (P.sweepR vm first k).pages.length = P.pages.length := by
  induction k with
  | zero => rfl
  | succ k ih => rw [sweepR, setPg]; simpa using ih
theorem sweepR_gs (P : PtD) (vm first : Int) (k : Nat) : (P.sweepR vm first k).guests = P.guests := by
  induction k with
  | zero => rfl
  | succ k ih => rw [sweepR, setPg]; exact ih
theorem sweepR_on (P : PtD) (vm first : Int) (k : Nat) : (P.sweepR vm first k).on = P.on := by
  induction k with
  | zero => rfl
  | succ k ih => rw [sweepR, setPg]; exact ih
theorem sweepR_pg (P : PtD) (vm first : Int) (k : Nat) (hk : k ≤ P.pages.length) (j : Nat) : (P.sweepR vm first k).pg j = if j < k then sweptR vm first j (P.pg j) else P.pg j := by
  induction k with
  | zero => rw [if_neg (by omega)]; rfl
  | succ k ih =>
    rw [sweepR, setPg_pg _ _ _ (by rw [sweepR_len]; omega), ih (by omega)]
    by_cases hj : j = k
    · rw [if_pos hj, if_pos (by omega), hj]
    · rw [if_neg hj]
      by_cases h2 : j < k
      · rw [if_pos h2, if_pos (by omega)]
      · rw [if_neg h2, if_neg (by omega)]
theorem ext_pg {P Q : PtD} (hl : P.pages.length = Q.pages.length) (hp : ∀ j, j < P.pages.length → P.pg j = Q.pg j) (hg : P.guests = Q.guests) (ho : P.on = Q.on) : P = Q := by
  have : P.pages = Q.pages := by
    apply List.ext_getElem hl
    intro j h1 h2
    have := hp j h1
    unfold pg at this
    rw [List.getD_eq_getElem?_getD, List.getD_eq_getElem?_getD, List.getElem?_eq_getElem h1, List.getElem?_eq_getElem h2] at this
    exact this
  cases P
  cases Q
  simp only at this hg ho
  subst this hg ho
  rfl
theorem gone_eq {P : PtD} (hm : P.may = true) {vm : Int} (hv : 1 ≤ vm ∧ vm ≤ 4) (hl : (P.gs (ix vm)).live = true) : P.sweepR vm (P.gs (ix vm)).first P.pages.length = P.gone vm := by
  have hok := may_ok.1 hm
  have hi := ix_lt hv
  obtain ⟨_, f0, f1, _⟩ := hok.liv _ hi hl
  refine ext_pg ?_ (fun j hj => ?_) ?_ ?_
  · rw [sweepR_len, gone, frees_len, sweep_len]
  · rw [sweepR_len] at hj
    rw [sweepR_pg P vm _ _ (Nat.le_refl _), if_pos hj, gone, frees_pg _ _ _ (by rw [sweep_len]; omega), sweep_pg P vm _ (Nat.le_refl _), if_pos hj, sweptR]
    by_cases hr : (P.gs (ix vm)).first ≤ j ∧ (j : Int) < (P.gs (ix vm)).first + 5
    · have hown : (P.pg j).own = -1 := (hok.hyp j hj).2 (.inr ⟨ix vm, hi, hl, hr.1, hr.2⟩)
      have hwit := hok.hypw j hj hown
      have hsw : swept vm (P.pg j) = P.pg j := by
        unfold swept
        have h1 : decide ((P.pg j).own = vm) = false := by rw [hown]; simp; omega
        have h2 : decide ((P.pg j).own = 0) = false := by rw [hown]; rfl
        rw [h1, h2]; rfl
      rw [if_pos (by omega), show (decide ((P.gs (ix vm)).first ≤ j) && decide ((j : Int) < (P.gs (ix vm)).first + 5)) = true by simp [hr.1, hr.2], hsw, hwit]
      rfl
    · rw [if_neg (by omega), show (decide ((P.gs (ix vm)).first ≤ j) && decide ((j : Int) < (P.gs (ix vm)).first + 5)) = false by rw [← Bool.not_eq_true]; simpa using fun h => by omega]
      rfl
  · rw [sweepR_gs, gone, frees_gs, sweep_gs]
  · rw [sweepR_on, gone, frees_on, sweep_on]
end PtD
section
variable {P : PtD} {Y : Lay} {bx tx : Nat} {w : World}
theorem destroyR_e (h : OwnP P Y) (hm : P.may = true) (hN : HereN (Y.hd P bx 26) w) (vm : Int) (hv : 1 ≤ vm ∧ vm ≤ 4) (hl : (P.gs (ix vm)).live = true) : Fn Tryz.prog 68 [.pointer (some ⟨bx, 0, none⟩), .int .i64 vm].toArray w ((Y.hd P bx 26).map (·.b)) (CallR bx 26 (P.destroyL vm)) := by
  have hok := PtD.may_ok.1 hm
  have hp1 := h.n.p1
  have g4 := h.n.g4
  have hz := h.gsz
  have hsm := h.sm.pg
  have hpsz := h.psz
  have hi : ix vm < 4 := ix_lt hv
  obtain ⟨_, f0, f1, hvc, hvo, _⟩ := hok.liv _ hi hl
  have hrow := h.gRow hi
  refine enterM _ hN Tryz.func68 ?_
  obtain ⟨qv, cv, ev⟩ := (h.vc _ hi).opened
  obtain ⟨qm, cm, em⟩ := (h.mp _ hi).opened
  rw [List.length_map] at ev em
  rw [ev, em, hl] at hrow
  have hrow' : (Y.gc.toList.drop ((vm - 1).toNat * 5)).take 5 = _ := hrow
  obtain ⟨r, g1, g2⟩ := ghs_upd Y.G hi
  refine run ?_
  intro G
  refine run ?_
  refine st_le (⟨G, #[.bool true, .bool (P.gs (ix vm)).dying, .int .i64 (P.gs (ix vm)).first, .slice qv (P.gs (ix vm)).vcpus.length cv, .slice qm (P.gs (ix vm)).maps.length cm], 62⟩ :: ((Y.G (ix vm)).hv ++ (⟨bx, #[Y.pv P, Y.gv P, Y.ov P], 26⟩ :: ⟨Y.pb, Y.pc, 55⟩ :: ⟨Y.gb, Y.gc, 62⟩ :: ⟨Y.ob, Y.oc, 64⟩ :: ((Y.G (ix vm)).hm ++ r)))) (by (refine hpLe_cnt fun a => ?_; have := HpLe.cnt g1 a; simp only [cntB_app, cntB_cons, cntB_nil] at *; omega)) ?_
  refine loopS (σ := Nat) (fun k => [(6, .int .i64 (k : Int))]) (fun _ => ⟨G, #[.bool true, .bool (P.gs (ix vm)).dying, .int .i64 (P.gs (ix vm)).first, .slice qv (P.gs (ix vm)).vcpus.length cv, .slice qm (P.gs (ix vm)).maps.length cm], 62⟩ :: ((Y.G (ix vm)).hv ++ (⟨bx, #[Y.pv P, Y.gv P, Y.ov P], 26⟩ :: ⟨Y.pb, Y.pc, 55⟩ :: ⟨Y.gb, Y.gc, 62⟩ :: ⟨Y.ob, Y.oc, 64⟩ :: ((Y.G (ix vm)).hm ++ r)))) (fun k => k ≤ (P.gs (ix vm)).vcpus.length ∧ ∀ j, j < k → (P.gs (ix vm)).vcpus.getD j 0 = -1) (fun k => (P.gs (ix vm)).vcpus.length - k) 0 ⟨Nat.zero_le _, fun j hj => absurd hj (by omega)⟩ ?_
  rintro k m hm' ⟨hk, hno⟩
  have hkey0 : P.destroyL vm = bif (P.gs (ix vm)).vcpus.any (fun x => decide (0 ≤ x)) then .error 6 else .ok ((P.gone vm).setGs (ix vm) ⟨false, (P.gone vm).owns vm, 0, [], []⟩) := by
    rw [PtD.destroyL, show PtD.btw vm 1 4 = true by simp [PtD.btw, hv.1, hv.2], hl]; rfl
  refine run ?_
  refine st_cond _ rfl (fun hc => ?_) (fun hc => ?_)
  · have hlt : k < (P.gs (ix vm)).vcpus.length := by simp at hc; omega
    obtain ⟨g, cap, cur, eg, eh, hr⟩ := (h.vc _ hi).row (n := (P.gs (ix vm)).vcpus.length) (by simp) (by omega)
    rw [ev] at eg
    cases eg
    rw [eh]
    simp only [List.cons_append, List.nil_append]
    have hat : ((P.gs (ix vm)).vcpus.map inV)[k]? = some (inV ((P.gs (ix vm)).vcpus.getD k 0)) := by
      rw [List.getElem?_map, List.getD_eq_getElem?_getD, List.getElem?_eq_getElem hlt]; rfl
    have hnk := hr.nth (fun c hc => (in_all c hc).1) hat (k := 0) rfl
    rw [Nat.mul_one, Nat.add_zero] at hnk
    have hcs : k < cur.size := by have := hr.size; have := hr.le; omega
    refine run ?_
    refine st_cond _ rfl (fun hq => ?_) (fun hq => ?_)
    · have hany : (P.gs (ix vm)).vcpus.any (fun x => decide (0 ≤ x)) = true := by
        rw [List.any_eq_true]
        refine ⟨(P.gs (ix vm)).vcpus.getD k 0, ?_, ?_⟩
        · rw [List.getD_eq_getElem?_getD, List.getElem?_eq_getElem hlt]; simp
        · have := hvo k hlt
          simp only [Bool.not_eq_true', decide_eq_false_iff_not] at hq
          simp only [PtD.vcpuAt, PtD.btw, Bool.or_eq_true, Bool.and_eq_true, decide_eq_true_eq] at this
          rcases this with h1 | h1
          · exact absurd h1 hq
          · simpa using h1.1.1
      rw [hkey0, hany]
      refine run ?_
      refine fin1 ?_
      rfl
    · refine run ?_
      refine nextS (k + 1) ⟨hlt, fun j hj => ?_⟩ (h2 := by (refine hpLe_cnt fun a => ?_; simp only [cntB_app, cntB_cons, cntB_nil]; omega))
      rcases Nat.lt_succ_iff_lt_or_eq.1 hj with hj | rfl
      · exact hno j hj
      · simpa using hq
  have hkn : k = (P.gs (ix vm)).vcpus.length := by simp at hc; omega
  subst hkn
  have hany : (P.gs (ix vm)).vcpus.any (fun x => decide (0 ≤ x)) = false := by
    rw [← Bool.not_eq_true, List.any_eq_true]
    rintro ⟨x, hx, h0⟩
    obtain ⟨j, hj, rfl⟩ := List.mem_iff_getElem.1 hx
    have := hno j hj
    rw [List.getD_eq_getElem?_getD, List.getElem?_eq_getElem hj] at this
    simp only [Option.getD_some] at this
    rw [this] at h0
    simp at h0
  rw [hkey0, hany]
  refine run ?_
  refine loopS (σ := Nat × Array Value) (fun s => [(7, .int .i64 (s.1 : Int))]) (fun s => ⟨G, #[.bool true, .bool (P.gs (ix vm)).dying, .int .i64 (P.gs (ix vm)).first, .slice qv (P.gs (ix vm)).vcpus.length cv, .slice qm (P.gs (ix vm)).maps.length cm], 62⟩ :: ⟨Y.pb, s.2, 55⟩ :: ((Y.G (ix vm)).hv ++ (⟨bx, #[Y.pv P, Y.gv P, Y.ov P], 26⟩ :: ⟨Y.gb, Y.gc, 62⟩ :: ⟨Y.ob, Y.oc, 64⟩ :: ((Y.G (ix vm)).hm ++ r)))) (fun s => s.1 ≤ P.pages.length ∧ OwnP (P.sweepR vm (P.gs (ix vm)).first s.1) { Y with pc := s.2 }) (fun s => P.pages.length - s.1) (0, Y.pc) ⟨Nat.zero_le _, h⟩ (hh := by (refine hpLe_cnt fun a => ?_; simp only [cntB_app, cntB_cons, cntB_nil]; omega)) ?_
  rintro ⟨k, pc⟩ m2 hm2 ⟨hk2, hO⟩
  dsimp only at hm2 hk2 hO ⊢
  have hcl := PtD.sweepR_len P vm (P.gs (ix vm)).first k
  refine run ?_
  refine st_cond _ rfl (fun hc2 => ?_) (fun hc2 => ?_)
  · have hlt : k < P.pages.length := by simp at hc2; omega
    have hps := hO.psz
    rw [hcl] at hps
    dsimp only at hps
    have hkl : k < (P.sweepR vm (P.gs (ix vm)).first k).pages.length := by rw [hcl]; exact hlt
    have hpgk : (P.sweepR vm (P.gs (ix vm)).first k).pg k = P.pg k := by rw [PtD.sweepR_pg P vm _ k hk2 k, if_neg (by omega)]
    have hp0 := hO.p0' hkl
    have hp1' := hO.p1' hkl
    rw [hpgk] at hp0 hp1'
    dsimp only at hp0 hp1'
    have hnr : (decide ((P.pg k).own = vm) || decide ((P.pg k).own = 0) && decide ((P.pg k).wit = vm)) = true → (decide ((P.gs (ix vm)).first ≤ k) && decide ((k : Int) < (P.gs (ix vm)).first + 5)) = false := by
      intro hq
      rw [← Bool.not_eq_true]
      intro hr
      simp only [Bool.and_eq_true, decide_eq_true_eq] at hr
      have hown : (P.pg k).own = -1 := (hok.hyp k hlt).2 (.inr ⟨ix vm, hi, hl, hr.1, hr.2⟩)
      simp [hown] at hq
      omega
    refine runG ?_
    refine st_cond _ rfl (fun hq => ?_) (fun hq => ?_)
    · have hsw : PtD.sweptR vm (P.gs (ix vm)).first k (P.pg k) = ⟨(P.pg k).own, -2⟩ := by rw [PtD.sweptR, hnr hq, PtD.swept, hq]; rfl
      have hnr' := hnr hq
      refine runG ?_
      refine st_cond _ rfl (fun hr => ?_) (fun hr => ?_)
      · rw [hnr'] at hr; cases hr
      refine run ?_
      have h1 := hO.setP hkl ⟨(P.pg k).own, -2⟩ (pc := pc.setIfInBounds (k * 2 + 1) (.int .i64 (-2))) (by
        have := hO.pg.put pg_len (pg_at hkl) (k := 1) (vs := [.int .i64 (-2)]) (by simp)
        rw [hpgk] at this
        exact this) ⟨(h.wf.pg k hlt).1, (show I64 (-2) from ⟨by decide, by decide⟩)⟩
      rw [← hsw] at h1
      exact nextS (k + 1, pc.setIfInBounds (k * 2 + 1) (.int .i64 (-2))) (hm := by dsimp only; omega) ⟨hlt, h1⟩ (h2 := by (refine hpLe_cnt fun a => ?_; simp only [cntB_app, cntB_cons, cntB_nil]; omega))
    · have hsp : PtD.swept vm (P.pg k) = P.pg k := by rw [PtD.swept, hq]; rfl
      refine runG ?_
      refine st_cond _ rfl (fun hr => ?_) (fun hr => ?_)
      · refine run ?_
        have hsw : PtD.sweptR vm (P.gs (ix vm)).first k (P.pg k) = ⟨0, (P.pg k).wit⟩ := by rw [PtD.sweptR, hr, hsp]; rfl
        have h1 := hO.setP hkl ⟨0, (P.pg k).wit⟩ (pc := pc.setIfInBounds (k * 2) (.int .i64 0)) (by
          have := hO.pg.put pg_len (pg_at hkl) (k := 0) (vs := [.int .i64 0]) (by simp)
          rw [hpgk] at this
          exact this) ⟨(show I64 0 from ⟨by decide, by decide⟩), (h.wf.pg k hlt).2⟩
        rw [← hsw] at h1
        exact nextS (k + 1, pc.setIfInBounds (k * 2) (.int .i64 0)) (hm := by dsimp only; omega) ⟨hlt, h1⟩ (h2 := by (refine hpLe_cnt fun a => ?_; simp only [cntB_app, cntB_cons, cntB_nil]; omega))
      · refine run ?_
        have hsw : PtD.sweptR vm (P.gs (ix vm)).first k (P.pg k) = P.pg k := by rw [PtD.sweptR, hr, hsp]; rfl
        have h1 : OwnP (P.sweepR vm (P.gs (ix vm)).first (k + 1)) { Y with pc := pc } := by
          rw [PtD.sweepR, hsw, PtD.setPg_same hkl hpgk]; exact hO
        exact nextS (k + 1, pc) (hm := by dsimp only; omega) ⟨hlt, h1⟩ (h2 := by (refine hpLe_cnt fun a => ?_; simp only [cntB_app, cntB_cons, cntB_nil]; omega))
  · have hkn : k = P.pages.length := by simp at hc2; omega
    subst hkn
    rw [PtD.gone_eq hm hv hl] at hO
    have l1 : (P.gone vm).pages.length = P.pages.length := by rw [← PtD.gone_eq hm hv hl, PtD.sweepR_len]
    have l2 : (P.gone vm).guests.length = P.guests.length := by rw [← PtD.gone_eq hm hv hl, PtD.sweepR_gs]
    have l3 : (P.gone vm).on.length = P.on.length := by rw [← PtD.gone_eq hm hv hl, PtD.sweepR_on]
    obtain ⟨Y2, eY⟩ : ∃ Y2, Y2 = ({ Y with pc := pc } : Lay) := ⟨_, rfl⟩
    have hd2 : ∀ tx, Lay.hd Y2 (P.gone vm) bx tx = ⟨bx, #[Y.pv P, Y.gv P, Y.ov P], tx⟩ :: ⟨Y.pb, pc, 55⟩ :: ⟨Y.gb, Y.gc, 62⟩ :: ⟨Y.ob, Y.oc, 64⟩ :: ghs Y.G 4 := by
      intro tx
      rw [eY]
      simp only [Lay.hd, Lay.in, Lay.pv, Lay.gv, Lay.ov, l1, l2, l3]
    rw [← eY] at hO
    have e2 : Y2.gc = Y.gc := by rw [eY]
    have e3 : Y2.G = Y.G := by rw [eY]
    have hrow2 := hO.gs.put gs_len (hO.rowG hi) (k := 0) (vs := [.bool false, .bool false, .int .i64 0, .slice none 0 0, .slice none 0 0]) (by simp)
    have h1 := hO.setG hi ⟨false, false, 0, [], []⟩ ⟨.slice none 0 0, .slice none 0 0, [], []⟩ (gc := putAt Y2.gc (ix vm * 5) [.bool false, .bool false, .int .i64 0, .slice none 0 0, .slice none 0 0]) hrow2 ⟨by simp, .inl ⟨rfl, rfl, rfl⟩⟩ ⟨by simp, .inl ⟨rfl, rfl, rfl⟩⟩ ⟨⟨by decide, by decide⟩, by simp, by simp⟩ ⟨by simp, by simp⟩
    have hd3 := hdG Y2 (P.gone vm) (ix vm) ⟨false, false, 0, [], []⟩ (putAt Y2.gc (ix vm * 5) [.bool false, .bool false, .int .i64 0, .slice none 0 0, .slice none 0 0]) (updG Y2.G (ix vm) ⟨.slice none 0 0, .slice none 0 0, [], []⟩) bx 26
    have g3 := g2 (.slice none 0 0) (.slice none 0 0) [] []
    obtain ⟨Y3, eY3⟩ : ∃ Y3, Y3 = ({ Y2 with gc := putAt Y2.gc (ix vm * 5) [.bool false, .bool false, .int .i64 0, .slice none 0 0, .slice none 0 0], G := updG Y2.G (ix vm) ⟨.slice none 0 0, .slice none 0 0, [], []⟩ } : Lay) := ⟨_, rfl⟩
    rw [← eY3] at h1 hd3
    rw [(List.cons.inj (hd2 26)).1, e2, e3, show Y2.pb = Y.pb by rw [eY], show Y2.pc = pc by rw [eY], show Y2.gb = Y.gb by rw [eY], show Y2.ob = Y.ob by rw [eY], show Y2.oc = Y.oc by rw [eY]] at hd3
    refine st_le (⟨Y.gb, Y.gc, 62⟩ :: ⟨bx, #[Y.pv P, Y.gv P, Y.ov P], 26⟩ :: ⟨Y.pb, pc, 55⟩ :: ⟨Y.ob, Y.oc, 64⟩ :: r) (by (refine hpLe_cnt fun a => ?_; simp only [cntB_app, cntB_cons, cntB_nil]; omega)) ?_
    refine run ?_
    rw [show (vm - 1).toNat = ix vm from rfl]
    refine ops_le (Y3.hd ((P.gone vm).setGs (ix vm) ⟨false, false, 0, [], []⟩) bx 26) (hle_eq hd3 (by simp only [putAt]; (refine hpLe_cnt fun a => ?_; have := HpLe.cnt g3 a; simp only [cntB_app, cntB_cons, cntB_nil] at *; omega))) ?_
    refine callM (Y3.hd ((P.gone vm).setGs (ix vm) ⟨false, false, 0, [], []⟩) bx 26) [] (fun wc hG => settle_e h1 hG.hereN vm hv) (fun v hn hR => ?_) (by rw [List.append_nil])
    obtain ⟨rfl, Y', hO4, hle⟩ := hR
    refine run ?_
    refine fin1 ?_
    have g4' : (P.gone vm).guests.length = 4 := by rw [l2]; exact g4
    have hfin : ((P.gone vm).setGs (ix vm) ⟨false, false, 0, [], []⟩).setGs (ix vm) { ((P.gone vm).setGs (ix vm) ⟨false, false, 0, [], []⟩).gs (ix vm) with dying := ((P.gone vm).setGs (ix vm) ⟨false, false, 0, [], []⟩).owns vm } = (P.gone vm).setGs (ix vm) ⟨false, (P.gone vm).owns vm, 0, [], []⟩ := by
      rw [PtD.setGs_gs (P.gone vm) (ix vm) _ (by omega), if_pos rfl]
      simp only [PtD.setGs, List.set_set]
      rfl
    rw [hfin] at hO4 hle
    exact ⟨rfl, Y', hO4, hpLe_cnt fun a => Nat.le_trans (hle.cnt a) (by simp only [cntB_app, cntB_cons, cntB_nil]; omega)⟩
theorem hostDestroy_e (h : OwnP P Y) (hm : P.may = true) (hN : HereN (Y.hd P bx 26) w) (cpu : Int) (vm fr mid vc cc : Int) (hw : ClD.Wf ⟨6, vm, fr, mid, vc, cc⟩) : Fn Tryz.prog 31 [.pointer (some ⟨bx, 0, none⟩), .int .i64 cpu, clV ⟨6, vm, fr, mid, vc, cc⟩].toArray w ((Y.hd P bx 26).map (·.b)) (CallR bx 26 (P.destroyL vm)) := by
  have hvm := hw.vm
  have hbt : PtD.btw vm 1 4 = !(decide (vm < 1) || decide (4 < vm)) := by rw [Bool.eq_iff_iff]; simp [PtD.btw]
  have hz := h.gsz
  have g4 := h.n.g4
  refine enterM _ hN Tryz.func31 ?_
  refine run ?_
  intro B
  refine run ?_
  refine callE (v := .bool true) (fun wc hG => names_e ⟨6, vm, fr, mid, vc, cc⟩ wc) ?_
  refine runC ?_
  refine st_cond _ rfl (fun hp => ?_) (fun hp => ?_)
  · refine runC ?_
    refine fin1 ?_
    rw [Bool.true_and] at hp
    simp [CallR, PtD.destroyL, hbt, hp]
  have hbt2 : PtD.btw vm 1 4 = true := by rw [hbt]; rw [Bool.true_and] at hp; rw [hp]; rfl
  have hv := hbt2
  simp only [PtD.btw, Bool.and_eq_true, decide_eq_true_eq] at hv
  have hi := ix_lt hv
  have n0 := h.g0 hi
  refine runC ?_
  refine drawAll ?_
  refine runDG ?_
  refine runC ?_
  refine st_cond _ rfl (fun hl => ?_) (fun hl => ?_)
  · refine runC ?_
    refine fin1 ?_
    simp at hl
    have hlf : (P.gs (ix vm)).live = false := hl
    simp [CallR, PtD.destroyL, hbt2, hlf]
  have hl' : (P.gs (ix vm)).live = true := by simpa using hl
  refine runC ?_
  refine callM (Y.hd P bx 26) [⟨B, #[.int .i64 6, .int .i64 vm, .int .i64 fr, .int .i64 mid, .int .i64 vc, .int .i64 cc], 33⟩] (fun wc hG => destroyR_e h hm hG.hereN vm hv hl') (fun v hn hR => ?_) (by rw [hdY]; (refine perm_cnt fun a => ?_; simp only [cntB_app, cntB_cons, cntB_nil]; omega))
  refine runC ?_
  refine fin1 ?_
  exact hR.le (by (refine hpLe_cnt fun a => ?_; simp only [cntB_app, cntB_cons, cntB_nil]; omega))
theorem hostCallDestroy_e (h : OwnP P Y) (hm : P.may = true) (hN : HereN (Y.hd P bx 67) w) (cpu vm fr mid vc cc : Int) (hw : ClD.Wf ⟨6, vm, fr, mid, vc, cc⟩) : Fn Tryz.prog 30 [.pointer (some ⟨bx, 0, none⟩), .int .i64 cpu, clV ⟨6, vm, fr, mid, vc, cc⟩].toArray w ((Y.hd P bx 67).map (·.b)) (CallR bx 67 (P.destroyL vm)) := by
  refine enterM _ hN Tryz.func30 ?_
  refine run ?_
  intro C
  refine runC ?_
  refine callM (Y.hd P bx 67) [⟨C, #[.int .i64 6, .int .i64 vm, .int .i64 fr, .int .i64 mid, .int .i64 vc, .int .i64 cc], 33⟩] (fun wc hG => destroy_e h hm hG.hereN ⟨6, vm, fr, mid, vc, cc⟩ hw) (fun v hn hR => ?_) (by rw [hdY]; (refine perm_cnt fun a => ?_; simp only [cntB_app, cntB_cons, cntB_nil]; omega))
  refine runC ?_
  refine fin1 ?_
  exact hR.le (by (refine hpLe_cnt fun a => ?_; simp only [cntB_app, cntB_cons, cntB_nil]; omega))
theorem kindDestroy : KindOk 6 := by
  refine kind_host (fun P c cpu => P.destroyL c.vm) ?_ rfl rfl rfl ?_ ?_
  · intro P c cpu e h
    dsimp only [PtD.destroyL] at h
    revert h
    cases PtD.btw c.vm 1 4 <;> cases (P.gs (ix c.vm)).live <;> cases (P.gs (ix c.vm)).vcpus.any (fun x => decide (0 ≤ x)) <;> (intro h; cases h; try decide)
  · rintro P Y bx w ⟨_, vm, fr, mid, vc, cc⟩ cpu rfl hw hm hc hv hO hN
    exact hostCallDestroy_e hO hm hN cpu vm fr mid vc cc hw
  · rintro P Y bx w ⟨_, vm, fr, mid, vc, cc⟩ cpu rfl hw hm hc hv hO hN
    exact hostDestroy_e hO hm hN cpu vm fr mid vc cc hw
end
end Go.Proofs.YtjnndchkblnkgaaGreat
