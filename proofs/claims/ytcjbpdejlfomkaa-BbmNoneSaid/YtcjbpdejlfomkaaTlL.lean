/- Layer 17: BbmNone: the plain law; its walk. -/
import Derived.Test.YtcjbpdejlfomkaaTlJ
namespace Go.Proofs.Ytcjbpdejlfomkaa
open Go.RowKit
set_option linter.unusedVariables false
set_option linter.unusedSimpArgs false
set_option maxRecDepth 20000
def goneB (v m : Int) (x : EnD) : Bool := decide (x.vmid = v) && (!decide (x.kind = 2) || decide (x.page = m))
theorem due_takes {x : EnD} (hx : x.may = true) (v m : Int) : ((dueL v m).any fun i => i.takes x) = goneB v m x := by
  have hk : x.kind = 1 ∨ x.kind = 2 ∨ x.kind = 3 := by
    unfold EnD.may at hx
    rw [Bool.and_eq_true] at hx
    have h2 := hx.2
    by_cases h1 : x.kind = 1
    · exact .inl h1
    · by_cases h2' : x.kind = 2
      · exact .inr (.inl h2')
      · by_cases h3 : x.kind = 3
        · exact .inr (.inr h3)
        · simp [h1, h2', h3] at h2
  have hc : decide (v = x.vmid) = decide (x.vmid = v) := by rw [Bool.eq_iff_iff, decide_eq_true_eq, decide_eq_true_eq]; exact eq_comm
  simp only [dueL, List.any_cons, List.any_nil, Bool.or_false, IvD.takes, IvD.at_, EnD.stage, goneB, hc]
  rcases hk with h | h | h
  · simp only [h]
    cases decide (x.vmid = v) <;> simp
  · simp only [h]
    cases decide (x.vmid = v) <;> simp
  · simp only [h]
    cases decide (x.vmid = v) <;> simp
theorem applyL_eq {es : List EnD} (hes : ∀ e ∈ es, e.may = true) (v m : Int) : applyL es (dueL v m) = es.filter fun x => !goneB v m x := by
  unfold applyL keepL
  exact List.filter_congr fun x hx => by show (!(dueL v m).any fun i => i.takes x) = _; rw [due_takes (hes x hx)]
theorem in_left {es : List EnD} {v m : Int} {x : EnD} (hx : x ∈ es) : decide (0 ≤ idxI (fun t => decide (t = x)) (es.filter fun x => !goneB v m x)) = !goneB v m x := by
  rw [idxI_ge, Bool.eq_iff_iff, List.any_eq_true]
  constructor
  · rintro ⟨y, hy, he⟩
    rw [List.mem_filter] at hy
    rw [decide_eq_true_eq] at he
    rw [← he]; exact hy.2
  · intro h
    exact ⟨x, List.mem_filter.2 ⟨hx, h⟩, by simp⟩
theorem filter_next {es : List EnD} {v m : Int} {j : Nat} (hj : j < es.length) : ((es.take (j + 1)).filter fun x => !goneB v m x).length = ((es.take j).filter fun x => !goneB v m x).length + (bif goneB v m (es.getD j default) then 0 else 1) := by
  rw [take_next hj, List.filter_append, List.length_append]
  cases h : goneB v m (es.getD j default) <;> simp only [List.filter_cons, List.filter_nil, h, Bool.not_false, Bool.not_true, if_true, cond_true, cond_false, Bool.false_eq_true, if_false, List.length_cons, List.length_nil]
theorem nth_cut {l : List Value} {a : Nat} {x y : Value} (h : (l.drop a).take 2 = [x, y]) : nth l a = some x ∧ nth l (a + 1) = some y := by
  have h0 := congrArg (fun l => l[0]?) h
  have h1 := congrArg (fun l => l[1]?) h
  simp only [List.getElem?_take, List.getElem?_drop, List.getElem?_cons_zero, List.getElem?_cons_succ] at h0 h1
  rw [nth_eq, nth_eq]
  exact ⟨by simpa using h0, by simpa using h1⟩
attribute [local irreducible] Hy St Ops DH DHF DE1 DE2 DE3 DS DCh
theorem num17_e (n : Int) (w : World) : Fn Try.prog 16 [.int .i64 n].toArray w [] (fun u _ => u = .int .i64 n) := by
  refine enter Try.func16 ?_
  refine run ?_
  exact fin1 rfl
def wkE (p : Int) : EnD := ⟨2, 0, 0, true, p, 0, 0, 0, false, false, false, false, false, 0⟩
theorem wk_left : applyL [wkE 3, wkE 4] (dueL 0 3) = [wkE 4] := by decide +kernel
theorem wk_ok : tlbOk [wkE 3, wkE 4] [] = true := by decide +kernel
theorem wakes17_e (w : World) : Fn Try.prog 20 [].toArray w [] (fun u _ => u = .bool true) := by
  refine enter Try.func20 ?_
  refine run ?_
  intro E T
  refine callB (fun wc hG => forget_e [⟨[wkE 3, wkE 4], [], some ⟨E, 0, none⟩, 2, none, 0⟩] 0 3 (by decide) (by decide) (lv := .slice (some ⟨T, 0, none⟩) 1 1)
    ⟨lie_rows (xs := [[.slice (some ⟨E, 0, none⟩) 2 2, .slice none 0 0]]) (hG.here _ mh) (fun c hc => by obtain rfl := List.mem_singleton.1 hc; rfl) (by simp),
      fun t ht => by obtain rfl := List.mem_singleton.1 ht; exact lie_rows (xs := [enV (wkE 3), enV (wkE 4)]) (hG.here _ (List.mem_cons_of_mem _ mh)) (fun c hc => by simp at hc; rcases hc with rfl | rfl <;> rfl) (by simp),
      fun t ht => by obtain rfl := List.mem_singleton.1 ht; exact (Own.nil 115 4).lie (fun b hb => by cases hb) (by decide)⟩
    (fun t ht => by obtain rfl := List.mem_singleton.1 ht; exact Nat.le_refl 2) (fun t ht => by obtain rfl := List.mem_singleton.1 ht; exact wk_ok) (by simp)) ?_
  rintro u hn ⟨fv, ha, hs, ts', rfl, hO, hT, hE, hle⟩
  rw [List.map_singleton, wk_left] at hE
  obtain ⟨t', rfl⟩ := List.length_eq_one_iff.1 (show ts'.length = 1 by simpa using congrArg List.length hE)
  simp only [List.map_cons, List.map_nil, List.cons.injEq, Prod.mk.injEq, and_true] at hE
  obtain ⟨les, lds, lep, lec, ldp, ldc⟩ := t'
  obtain ⟨rfl, rfl⟩ := hE
  obtain ⟨_, h1, hle1, hO1⟩ := hT _ (List.mem_singleton.2 rfl)
  obtain ⟨gf, cf, cur, rfl, rfl, hrow⟩ := hO.row (n := 1) rfl (by decide)
  obtain ⟨g1, cc, cur1, e1, rfl, hrow1⟩ := hO1.row (n := 1) rfl (by decide)
  have hcut : (cur.toList.drop (0 * 2)).take 2 = [.slice lep 1 lec, .slice ldp 0 ldc] := hrow.cut (fun c hc => by obtain rfl := List.mem_singleton.1 hc; rfl) rfl
  have hcut1 : (cur1.toList.drop (0 * 14)).take 14 = enV (wkE 4) := hrow1.cut (fun c hc => (en_all (xs := [wkE 4]) c hc).1) rfl
  injection e1 with e1 _ e3
  subst e1 e3
  obtain ⟨hn0, hn1⟩ := nth_cut hcut
  have hn4 : nth cur1.toList 4 = some (.int .i64 4) := by
    have h4 := congrArg (fun l => l[4]?) hcut1
    simp only [List.getElem?_take, List.getElem?_drop] at h4
    rw [nth_eq]
    simpa [wkE] using h4
  refine ops_le [⟨gf, cur, 48⟩, ⟨g1, cur1, 50⟩] (by (refine hpLe_cnt fun a => ?_; have := HpLe.cnt hle a; have := HpLe.cnt hle1 a; simp only [cntB_app, cntB_cons, cntB_nil] at *; omega)) ?_
  refine runC ?_
  refine callE (fun wc hG => num17_e 0 wc) ?_
  refine runC ?_
  refine fin1 ?_
  simp
set_option maxHeartbeats 3200000 in
theorem lawBbmNone_e {w : World} {wv fv lv tv vv : Value} {S : SkD} {ts : List TlD} {vs : List Int} (h : AkAt w wv fv lv tv vv S ts vs) : Fn Try.prog 3 [.agg #[wv, .int .i64 S.root, fv, lv, tv, vv]].toArray w [] (fun u _ => u = .bool true) := by
  have h' := h
  obtain ⟨q1, c1, rfl, _, _⟩ := h.s.ws.opened
  obtain ⟨q2, c2, rfl, _, _⟩ := h.s.fr.opened
  obtain ⟨q3, c3, rfl, hne3, _⟩ := h.s.ac.opened
  obtain ⟨q4, c4, rfl, hne4, _⟩ := h.t.rows.opened
  obtain ⟨q5, c5, rfl, hne5, _⟩ := h.v.opened
  have htl := h.tl
  have hvl := h.vl
  refine enter Try.func3 ?_
  refine run ?_
  intro B
  refine callV (fun wc hG => heavy17_e (h'.good hG)) ?_
  rintro _ ⟨hb, rfl, hsm⟩
  refine runG ?_
  refine callEG (fun _ wc hG => tlbs9_e ts _ (h'.t.good hG)) ?_
  refine runG ?_
  refine st_cond _ rfl (fun hc => ?_) (fun hc => ?_)
  · refine run ?_
    exact fin1 rfl
  rw [Bool.or_eq_false_iff] at hc
  have hb0 : hb = false := by simpa using hc.1
  have hall : (ts.all fun t => tlbOk t.es t.ds) = true := by simpa using hc.2
  obtain ⟨ht6, hv6⟩ := hsm hb0
  have hok : ∀ t ∈ ts, tlbOk t.es t.ds = true := fun t ht => List.all_eq_true.1 hall t ht
  refine run ?_
  refine loopS (σ := Nat) (fun k => [(3, .int .i64 (k : Int))]) (fun _ => [⟨B, #[.slice q1 S.ws.length c1, .int .i64 S.root, .slice q2 S.free.length c2, .slice q3 S.acts.length c3, .slice q4 ts.length c4, .slice q5 vs.length c5], 31⟩]) (fun k => k ≤ S.acts.length) (fun k => S.acts.length - k) 0 (Nat.zero_le _) ?_
  rintro k m hm hk
  refine runG ?_
  refine st_cond _ rfl (fun hc => ?_) (fun hc => ?_)
  · have hlt : k < S.acts.length ∧ k < vs.length := by simp at hc; omega
    obtain ⟨b3, o3, rfl⟩ := hne3 (by intro e; rw [e] at hlt; simp at hlt)
    obtain ⟨b5, o5, rfl⟩ := hne5 (by intro e; rw [e] at hlt; simp at hlt)
    have hr := h.s.ac.row hlt.1
    have hr5 := rangeAt_cell0 (h.v.row hlt.2)
    simp only [Nat.mul_one] at hr5
    generalize S.acts.getD k default = a at hr
    simp only [acV] at hr
    have hr1 := rangeAt_cell (k := 1) hr rfl
    generalize vs.getD k default = vm at hr5
    refine run ?_
    refine drawAll ?_
    refine runD ?_
    refine callD (fun wc hG => within_e wc vm 16 (by decide) (by decide)) ?_
    refine runD ?_
    refine callD (fun wc hG => within_e wc a.mid 4096 (by decide) (by decide)) ?_
    refine runD ?_
    have hv16 := wthn_lt vm (m := 16) (by decide)
    have hm96 := wthn_lt a.mid (m := 4096) (by decide)
    generalize wthn vm 16 = V at hv16
    generalize wthn a.mid 4096 = M at hm96
    have hbv : PtD.btw (V : Int) 0 15 = true := by simp [PtD.btw]; omega
    have hbm : PtD.btw (M : Int) 0 4095 = true := by simp [PtD.btw]; omega
    refine run ?_
    refine callB (fun wc hG => forget_e ts (V : Int) (M : Int) hbv hbm (h'.t.good hG) h.cap hok (by omega)) ?_
    rintro u hn ⟨fv, ha, hs, ts', rfl, hO, hT, hE, hle⟩
    obtain ⟨qf, cf, ef⟩ := hO.opened
    have hlen : ts'.length = ts.length := by simpa using congrArg List.length hE
    rw [List.length_map, hlen] at ef
    subst ef
    refine ops_le (⟨B, #[.slice q1 S.ws.length c1, .int .i64 S.root, .slice q2 S.free.length c2, .slice (some ⟨b3, o3, none⟩) S.acts.length c3, .slice q4 ts.length c4, .slice (some ⟨b5, o5, none⟩) vs.length c5], 31⟩ :: (ha ++ hs)) (by (refine hpLe_cnt fun a => ?_; have := HpLe.cnt hle a; simp only [cntB_app, cntB_cons, cntB_nil] at *; omega)) ?_
    refine run ?_
    refine callE (fun wc hG => num17_e 0 wc) ?_
    refine runG ?_
    refine st_cond _ rfl (fun hc2 => absurd hc2 (by simp)) (fun hc2 => ?_)
    refine run ?_
    refine loopS (σ := Nat) (fun k2 => [(8, .int .i64 (k2 : Int))]) (fun _ => ⟨B, #[.slice q1 S.ws.length c1, .int .i64 S.root, .slice q2 S.free.length c2, .slice (some ⟨b3, o3, none⟩) S.acts.length c3, .slice q4 ts.length c4, .slice (some ⟨b5, o5, none⟩) vs.length c5], 31⟩ :: (ha ++ hs)) (fun k2 => k2 ≤ ts.length) (fun k2 => ts.length - k2) 0 (Nat.zero_le _) ?_
    rintro k2 m2 hm2 hk2
    refine run ?_
    refine st_cond _ rfl (fun hc3 => ?_) (fun hc3 => ?_)
    · have hlt2 : k2 < ts.length := by simpa using hc3
      obtain ⟨b4, o4, rfl⟩ := hne4 (by intro e; rw [e] at hlt2; simp at hlt2)
      obtain ⟨gf, cf', cur, ef, rfl, hrow⟩ := hO.row (n := ts.length) (by rw [List.length_map, hlen]) (by omega)
      cases ef
      have hr4 := h.t.rows.row hlt2
      have hen := h.t.en _ (getD_mem hlt2)
      have hiv := h.t.iv _ (getD_mem hlt2)
      have hkt := hok _ (getD_mem hlt2)
      have hT2 := hT _ (getD_mem (show k2 < ts'.length by omega))
      have hcut : (cur.toList.drop (k2 * 2)).take 2 = tlV (ts'.getD k2 default) := hrow.cut (fun c hc => by obtain ⟨x, _, rfl⟩ := List.mem_map.1 hc; rfl) (by rw [List.getElem?_map, List.getElem?_eq_getElem (by omega), List.getD_eq_getElem?_getD, List.getElem?_eq_getElem (by omega)]; rfl)
      have hE2 : (ts'.getD k2 default).es = applyL (ts.getD k2 default).es (dueL V M) ∧ (ts'.getD k2 default).ds = (ts.getD k2 default).ds := by
        have h5 := congrArg (fun l => l[k2]?) hE
        simp only [List.getElem?_map, List.getElem?_eq_getElem hlt2, List.getElem?_eq_getElem (show k2 < ts'.length by omega), Option.map_some, Option.some.injEq, Prod.mk.injEq] at h5
        simp only [List.getD_eq_getElem?_getD, List.getElem?_eq_getElem hlt2, List.getElem?_eq_getElem (show k2 < ts'.length by omega), Option.getD_some]
        exact h5
      generalize ts.getD k2 default = t at hr4 hen hiv hkt hE2
      generalize ts'.getD k2 default = t' at hT2 hcut hE2
      obtain ⟨tes, tds, tep, tec, tdp, tdc⟩ := t
      obtain ⟨les, lds, lep, lec, ldp, ldc⟩ := t'
      dsimp only [TlD.ev, TlD.dv, tlV] at hr4 hen hiv hkt hE2 hT2 hcut
      obtain ⟨hE2a, hE2b⟩ := hE2
      subst hE2b
      obtain ⟨hn0, hn1⟩ := nth_cut hcut
      obtain ⟨hmay, h8, h8d⟩ := tlbOk_may hkt
      have hr40 := rangeAt_cell (k := 0) hr4 rfl
      have hr41 := rangeAt_cell (k := 1) hr4 rfl
      obtain ⟨qe, ce, ee, hnee, _⟩ := hen.opened
      refine run ?_
      refine loopS (σ := Nat × Nat) (fun s => [(9, .int .i64 (s.1 : Int)), (10, .int .i64 (s.2 : Int))]) (fun _ => ⟨B, #[.slice q1 S.ws.length c1, .int .i64 S.root, .slice q2 S.free.length c2, .slice (some ⟨b3, o3, none⟩) S.acts.length c3, .slice (some ⟨b4, o4, none⟩) ts.length c4, .slice (some ⟨b5, o5, none⟩) vs.length c5], 31⟩ :: ⟨gf, cur, 48⟩ :: hs) (fun s => s.2 ≤ tes.length ∧ s.1 = ((tes.take s.2).filter fun x => !goneB V M x).length) (fun s => tes.length - s.2) (0, 0) ⟨Nat.zero_le _, rfl⟩ ?_
      rintro ⟨lf, j⟩ m3 hm3 ⟨hj, hlf⟩
      dsimp only at hm3 hj hlf ⊢
      have hlf8 : lf ≤ 8 := by
        have h7 := List.length_filter_le (fun x => !goneB V M x) (tes.take j)
        rw [List.length_take] at h7
        omega
      refine run ?_
      refine st_cond _ rfl (fun hc4 => ?_) (fun hc4 => ?_)
      · have hlt3 : j < tes.length := by simpa using hc4
        obtain ⟨be, oe, rfl⟩ := hnee (by intro e; rw [e] at hlt3; simp at hlt3)
        injection ee with e1 e2 e3
        subst e1 e3
        have hre := hen.row hlt3
        have hmx : tes.getD j default ∈ tes := getD_mem hlt3
        have hnx := filter_next (v := (V : Int)) (m := (M : Int)) hlt3
        have hmay' := hmay _ hmx
        have hin := in_left (v := (V : Int)) (m := (M : Int)) hmx
        generalize tes.getD j default = x at hre hmx hnx hmay' hin
        refine run ?_
        intro X
        refine runG ?_
        refine drawAll ?_
        refine runD ?_
        refine callD (fun wc hG => inEn_e x les _ (hT2.1 wc (fun e he => hG.here e (by simp [he]))).1) ?_
        refine runD ?_
        refine run ?_
        have hg0 : (decide (x.vmid = (V : Int)) && (!decide (x.kind = 2) || decide (x.page = (M : Int)))) = goneB V M x := rfl
        rw [hg0, hE2a, applyL_eq hmay, hin]
        refine st_cond _ rfl (fun hp => absurd hp (by cases goneB V M x <;> simp)) (fun hp => ?_)
        refine run ?_
        refine st_cond _ rfl (fun hp2 => ?_) (fun hp2 => ?_)
        · refine run ?_
          have hgf : goneB V M x = false := by simpa using hp2
          rw [hgf] at hnx
          refine nextS (lf + 1, j + 1) ⟨hlt3, by dsimp only; rw [hnx, hlf]; rfl⟩ (hm := by dsimp only; omega) (h2 := by (refine hpLe_cnt fun a => ?_; simp only [cntB_app, cntB_cons, cntB_nil]; omega))
        · refine run ?_
          have hgf : goneB V M x = true := by simpa using hp2
          rw [hgf] at hnx
          refine nextS (lf, j + 1) ⟨hlt3, by dsimp only; rw [hnx, hlf]; rfl⟩ (hm := by dsimp only; omega) (h2 := by (refine hpLe_cnt fun a => ?_; simp only [cntB_app, cntB_cons, cntB_nil]; omega))
      · have hje : j = tes.length := by simp at hc4; omega
        subst hje
        rw [List.take_length, ← applyL_eq hmay, ← hE2a] at hlf
        subst hlf
        refine runG ?_
        refine drawAll ?_
        refine runD ?_
        refine runDG ?_
        refine callDG (fun _ wc hG => eqInvals_e _ _ _ (hT2.1 wc (fun e he => hG.here e (by simp [he]))).2 (hiv.good hG)) ?_
        refine runDG ?_
        refine run ?_
        refine st_cond _ rfl (fun hp => absurd hp (by simp)) (fun hp => ?_)
        refine run ?_
        refine nextS (k2 + 1) hlt2 (hm := by omega) (h2 := by (refine hpLe_cnt fun a => ?_; simp only [cntB_app, cntB_cons, cntB_nil]; omega))
    · refine run ?_
      refine nextS (k + 1) (by omega) (h2 := by (refine hpLe_cnt fun a => ?_; simp only [cntB_app, cntB_cons, cntB_nil]; omega))
  · refine run ?_
    refine make (m := 8) (fun Z => ?_) (by decide)
    refine runG ?_
    refine callE (fun wc hG => rTable_e (List.replicate 8 0) (fun x hx => by rw [(List.mem_replicate.1 hx).2]; decide) ((own_made Z 8 (by decide)).lie (fun e he => hG.here e (by obtain rfl := List.mem_singleton.1 he; simp)) (by simp)) 2 (.inr rfl) 0 (by decide) 0 (by decide) 0 (by decide) (by decide)) ?_
    refine runG ?_
    rw [show ofL 2 0 ((List.replicate 8 0).getD (atN 0 0 0) 0) = noDs from by rfl]
    refine callEG (fun _ wc hG => wakes17_e wc) ?_
    refine runG ?_
    exact fin1 rfl
end Go.Proofs.Ytcjbpdejlfomkaa
