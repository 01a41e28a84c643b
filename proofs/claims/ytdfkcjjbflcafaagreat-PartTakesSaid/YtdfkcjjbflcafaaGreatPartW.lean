/- Layer 18 (part): a partition copied by the reference. -/
import Derived.Test.YtdfkcjjbflcafaaGreatPartV
namespace Go.Proofs.YtdfkcjjbflcafaaGreat
open Go.RowKit
set_option linter.unusedVariables false
set_option linter.unusedSimpArgs false
set_option maxRecDepth 20000
attribute [local irreducible] Hy St Ops DH DHF
theorem take_next {α : Type} [Inhabited α] {xs : List α} {k : Nat} (h : k < xs.length) : xs.take (k + 1) = xs.take k ++ [xs.getD k default] := by
  rw [List.take_succ_eq_append_getElem h, List.getD_eq_getElem?_getD, List.getElem?_eq_getElem h]; rfl
theorem copyPages_e {w : World} (xs : List PgD) (v : Value) (h : SlAt w v 2 (xs.map pgV)) (hl : xs.length < 1000000) : Fn Tryz.prog 58 [v].toArray w [] (fun u hp => Acc 56 2 u hp (xs.map pgV)) := by
  obtain ⟨q, cap, rfl, hne, hle⟩ := h.opened
  refine enter Tryz.func58 ?_
  refine run ?_
  refine loopS (σ := Nat × Value × Hp) (fun s => [(3, s.2.1), (4, .int .i64 (s.1 : Int))]) (fun s => s.2.2) (fun s => s.1 ≤ xs.length ∧ Acc 56 2 s.2.1 s.2.2 ((xs.take s.1).map pgV)) (fun s => xs.length - s.1) (0, _, []) ⟨by omega, Acc.nil _ _⟩ ?_
  rintro ⟨k, v, ha⟩ m hm ⟨hk, hA⟩
  dsimp only at hm hk hA ⊢
  refine run ?_
  refine st_cond _ rfl (fun hc => ?_) (fun hc => ?_)
  · have hlt : k < xs.length := by simp at hc; omega
    obtain ⟨b, o, rfl⟩ := hne (by intro e; subst e; simp at hlt)
    have h1 := (h.row hlt)
    simp only [pgV] at h1
    refine run ?_
    intro T
    refine appendA (c := pgV (xs.getD k default)) hA (fun v' ha' hA' => ?_) (by simp; omega) (news_own (m := 2) mh rfl)
    refine run ?_
    refine nextS (k + 1, v', ha') ⟨hlt, ?_⟩
    dsimp only
    rw [take_next hlt, List.map_append]
    exact hA'
  · have : k = xs.length := by simp at hc; omega
    subst this
    refine run ?_
    refine fin1 ?_
    simpa using hA
theorem copySeats_e {w : World} (xs : List StD) (v : Value) (h : SlAt w v 2 (xs.map stV)) (hl : xs.length < 1000000) : Fn Tryz.prog 60 [v].toArray w [] (fun u hp => Acc 52 2 u hp (xs.map stV)) := by
  obtain ⟨q, cap, rfl, hne, hle⟩ := h.opened
  refine enter Tryz.func60 ?_
  refine run ?_
  refine loopS (σ := Nat × Value × Hp) (fun s => [(3, s.2.1), (4, .int .i64 (s.1 : Int))]) (fun s => s.2.2) (fun s => s.1 ≤ xs.length ∧ Acc 52 2 s.2.1 s.2.2 ((xs.take s.1).map stV)) (fun s => xs.length - s.1) (0, _, []) ⟨by omega, Acc.nil _ _⟩ ?_
  rintro ⟨k, v, ha⟩ m hm ⟨hk, hA⟩
  dsimp only at hm hk hA ⊢
  refine run ?_
  refine st_cond _ rfl (fun hc => ?_) (fun hc => ?_)
  · have hlt : k < xs.length := by simp at hc; omega
    obtain ⟨b, o, rfl⟩ := hne (by intro e; subst e; simp at hlt)
    have h1 := (h.row hlt)
    simp only [stV] at h1
    refine run ?_
    intro T
    refine appendA (c := stV (xs.getD k default)) hA (fun v' ha' hA' => ?_) (by simp; omega) (news_own (m := 2) mh rfl)
    refine run ?_
    refine nextS (k + 1, v', ha') ⟨hlt, ?_⟩
    dsimp only
    rw [take_next hlt, List.map_append]
    exact hA'
  · have : k = xs.length := by simp at hc; omega
    subst this
    refine run ?_
    refine fin1 ?_
    simpa using hA
theorem copyMaps_e {w : World} (xs : List MpD) (v : Value) (h : SlAt w v 2 (xs.map mpV)) (hl : xs.length < 1000000) : Fn Tryz.prog 96 [v].toArray w [] (fun u hp => Acc 80 2 u hp (xs.map mpV)) := by
  obtain ⟨q, cap, rfl, hne, hle⟩ := h.opened
  refine enter Tryz.func96 ?_
  refine run ?_
  refine loopS (σ := Nat × Value × Hp) (fun s => [(3, s.2.1), (4, .int .i64 (s.1 : Int))]) (fun s => s.2.2) (fun s => s.1 ≤ xs.length ∧ Acc 80 2 s.2.1 s.2.2 ((xs.take s.1).map mpV)) (fun s => xs.length - s.1) (0, _, []) ⟨by omega, Acc.nil _ _⟩ ?_
  rintro ⟨k, v, ha⟩ m hm ⟨hk, hA⟩
  dsimp only at hm hk hA ⊢
  refine run ?_
  refine st_cond _ rfl (fun hc => ?_) (fun hc => ?_)
  · have hlt : k < xs.length := by simp at hc; omega
    obtain ⟨b, o, rfl⟩ := hne (by intro e; subst e; simp at hlt)
    have h1 := (h.row hlt)
    simp only [mpV] at h1
    refine run ?_
    intro T
    refine appendA (c := mpV (xs.getD k default)) hA (fun v' ha' hA' => ?_) (by simp; omega) (news_own (m := 2) mh rfl)
    refine run ?_
    refine nextS (k + 1, v', ha') ⟨hlt, ?_⟩
    dsimp only
    rw [take_next hlt, List.map_append]
    exact hA'
  · have : k = xs.length := by simp at hc; omega
    subst this
    refine run ?_
    refine fin1 ?_
    simpa using hA
theorem copyNumbers_e {w : World} (xs : List Int) (v : Value) (h : SlAt w v 1 (xs.map inV)) (hl : xs.length < 1000000) : Fn Tryz.prog 110 [v].toArray w [] (fun u hp => Acc 3 1 u hp (xs.map inV)) := by
  obtain ⟨q, cap, rfl, hne, hle⟩ := h.opened
  refine enter Tryz.func110 ?_
  refine run ?_
  refine loopS (σ := Nat × Value × Hp) (fun s => [(3, s.2.1), (4, .int .i64 (s.1 : Int))]) (fun s => s.2.2) (fun s => s.1 ≤ xs.length ∧ Acc 3 1 s.2.1 s.2.2 ((xs.take s.1).map inV)) (fun s => xs.length - s.1) (0, _, []) ⟨by omega, Acc.nil _ _⟩ ?_
  rintro ⟨k, v, ha⟩ m hm ⟨hk, hA⟩
  dsimp only at hm hk hA ⊢
  refine run ?_
  refine st_cond _ rfl (fun hc => ?_) (fun hc => ?_)
  · have hlt : k < xs.length := by simp at hc; omega
    obtain ⟨b, o, rfl⟩ := hne (by intro e; subst e; simp at hlt)
    have h1 := rangeAt_cell0 (h.row hlt)
    simp only [inV, Nat.mul_one] at h1
    refine run ?_
    intro T
    refine appendA (c := inV (xs.getD k default)) hA (fun v' ha' hA' => ?_) (by simp; omega) (news_own (m := 1) mh rfl)
    refine run ?_
    refine nextS (k + 1, v', ha') ⟨hlt, ?_⟩
    dsimp only
    rw [take_next hlt, List.map_append]
    exact hA'
  · have : k = xs.length := by simp at hc; omega
    subst this
    refine run ?_
    refine fin1 ?_
    simpa using hA
theorem copyGuest_e {w : World} (g : GsD) (vv mv : Value) (hv : SlAt w vv 1 (g.vcpus.map inV)) (hm : SlAt w mv 2 (g.maps.map mpV)) (l1 : g.vcpus.length < 1000000) (l2 : g.maps.length < 1000000) :
    Fn Tryz.prog 95 [.agg #[.bool g.live, .bool g.dying, .int .i64 g.first, vv, mv]].toArray w [] (fun u hn => ∃ b : GB, u = .agg #[.bool g.live, .bool g.dying, .int .i64 g.first, b.vv, b.mv] ∧ Own 3 1 b.vv b.hv (g.vcpus.map inV) ∧ Own 80 2 b.mv b.hm (g.maps.map mpV) ∧ HpLe (b.hv ++ b.hm) hn) := by
  obtain ⟨q1, c1, rfl, _⟩ := hv.opened
  obtain ⟨q2, c2, rfl, _⟩ := hm.opened
  refine enter Tryz.func95 ?_
  refine run ?_
  intro B1 B2 B3
  refine callB (fun wc hG => copyNumbers_e g.vcpus _ (hv.good hG) l1) (fun v' hv' hA => ?_)
  refine ops_perm (_ ++ hv') List.perm_append_comm ?_
  have hA' := hA.own
  obtain ⟨s1, d1, rfl⟩ := hA'.opened
  simp only [List.cons_append, List.nil_append]
  refine run ?_
  refine callB (fun wc hG => copyMaps_e g.maps _ (hm.good hG) l2) (fun m' hm' hB => ?_)
  refine ops_perm (_ ++ hm') List.perm_append_comm ?_
  have hB' := hB.own
  obtain ⟨s2, d2, rfl⟩ := hB'.opened
  simp only [List.cons_append, List.nil_append]
  refine run ?_
  refine finA ?_
  refine ⟨⟨_, _, hv', hm'⟩, rfl, hA', hB', ?_⟩
  (repeat (first | exact True.intro | exact HpLe.refl _ | (with_reducible exact HpLe.left _ _) | (with_reducible exact HpLe.right _ _) | (refine Exists.intro _ (And.intro (by first | exact p0 | exact p1 | exact p2 | exact p3 | exact p4 | exact p5) ?_)) | (with_reducible apply HpLe.app) | (with_reducible apply HpLe.skip)))
theorem copyGuests_e {w : World} {P : PtD} (g4 : P.guests.length = 4) (hs : P.Small 1000) (vv mv : Nat → Value) (gv : Value) (h : SlAt w gv 5 ((List.range P.guests.length).map fun i => [.bool (P.gs i).live, .bool (P.gs i).dying, .int .i64 (P.gs i).first, vv i, mv i])) (h2 : ∀ i, i < P.guests.length → SlAt w (vv i) 1 ((P.gs i).vcpus.map inV) ∧ SlAt w (mv i) 2 ((P.gs i).maps.map mpV)) :
    Fn Tryz.prog 59 [gv].toArray w [] (fun u hn => ∃ (G : Nat → GB) (hg : Hp), Own 63 5 u hg ((List.range P.guests.length).map (gsRow P G)) ∧ (∀ i, i < 4 → Own 3 1 (G i).vv (G i).hv ((P.gs i).vcpus.map inV) ∧ Own 80 2 (G i).mv (G i).hm ((P.gs i).maps.map mpV)) ∧ HpLe (hg ++ ghs G 4) hn) := by
  obtain ⟨⟨q, cap, rfl, hne⟩, _⟩ := h
  simp only [List.length_map, List.length_range]
  obtain ⟨b, o, rfl, hr⟩ := hne (by intro e; rw [List.map_eq_nil_iff, List.range_eq_nil] at e; omega)
  refine enter Tryz.func59 ?_
  refine run ?_
  refine loopS (σ := Nat × Value × Hp × (Nat → GB)) (fun s => [(3, s.2.1), (4, .int .i64 (s.1 : Int))]) (fun s => s.2.2.1 ++ ghs s.2.2.2 s.1) (fun s => s.1 ≤ 4 ∧ Acc 63 5 s.2.1 s.2.2.1 ((List.range s.1).map (gsRow P s.2.2.2)) ∧ ∀ i, i < s.1 → Own 3 1 (s.2.2.2 i).vv (s.2.2.2 i).hv ((P.gs i).vcpus.map inV) ∧ Own 80 2 (s.2.2.2 i).mv (s.2.2.2 i).hm ((P.gs i).maps.map mpV)) (fun s => 4 - s.1) (0, _, [], fun i => ⟨vv i, mv i, [], []⟩) ⟨by simp, Acc.nil _ _, fun i hi => absurd hi (by simp)⟩ ?_
  rintro ⟨k, v, ha, G⟩ m hm ⟨hk, hA, hown⟩
  dsimp only at hm hk hA hown ⊢
  refine run ?_
  refine st_cond _ rfl (fun hc => ?_) (fun hc => ?_)
  · have hlt : k < 4 := by simp at hc; omega
    have h1 := hr k _ (getD_range_map _ (by omega))
    obtain ⟨a1, a2⟩ := h2 k (by omega)
    have sv := hs.vc k (by omega)
    refine run ?_
    refine callB (fun wc hG => copyGuest_e (P.gs k) (vv k) (mv k) (a1.good hG) (a2.good hG) (by omega) (by omega)) ?_
    rintro _ hn ⟨b2, rfl, o1, o2, hle⟩
    refine ops_le (ha ++ (ghs G k ++ (b2.hv ++ b2.hm))) (by (refine hpLe_cnt fun a => ?_; have := HpLe.cnt hle a; simp only [cntB_app, cntB_cons, cntB_nil] at *; omega)) ?_
    refine run ?_
    intro T
    refine appendA (c := gsRow P (updG G k b2) k) hA (fun v' ha' hA' => ?_) (by simp; omega) (news_own (m := 5) mh (by simp only [gsRow, updG_self]; rfl)) (hp' := ⟨T, #[.bool (P.gs k).live, .bool (P.gs k).dying, .int .i64 (P.gs k).first, b2.vv, b2.mv], 63⟩ :: (ghs G k ++ (b2.hv ++ b2.hm))) (hperm := by (refine perm_cnt fun a => ?_; simp only [cntB_app, cntB_cons, cntB_nil]; omega)) (hl := rfl) (h1 := ?_)
    · refine run ?_
      refine nextS (k + 1, v', ha', updG G k b2) ⟨by dsimp only; omega, ?_, fun i hi => ?_⟩ (h2 := ?_)
      · dsimp only
        rw [List.range_succ, List.map_append]
        have e : (List.range k).map (gsRow P (updG G k b2)) = (List.range k).map (gsRow P G) := List.map_congr_left fun i hi => by
          have := List.mem_range.1 hi
          simp only [gsRow, updG_ne G k b2 (show i ≠ k by omega)]
        rw [e]
        exact hA'
      · dsimp only at hi ⊢
        rcases Nat.lt_succ_iff_lt_or_eq.1 hi with hi | rfl
        · rw [updG_ne _ _ _ (by omega)]; exact hown i hi
        · rw [updG_self]; exact ⟨o1, o2⟩
      · dsimp only
        rw [ghs, ghs_congr (G := G) k (fun i hi => updG_ne _ _ _ (by omega)), updG_self]
        (refine hpLe_cnt fun a => ?_; simp only [cntB_app, cntB_cons, cntB_nil]; omega)
    · simp only [gsRow, updG_self, List.all_cons, List.all_nil, o1.one, o2.one]; rfl
  have hk4 : k = 4 := by simp at hc; omega
  subst hk4
  refine run ?_
  refine fin1 ?_
  refine ⟨G, ha, by rw [g4]; exact hA.own, hown, HpLe.refl _⟩
theorem copyPart_e {w : World} {pv gv ov : Value} {P : PtD} (h : PartG w pv gv ov P) (hn : P.Len) (hs : P.Small 1000) : Fn Tryz.prog 32 [.agg #[pv, gv, ov]].toArray w [] (fun u hn => ∃ Y : Lay, u = .agg #[Y.pv P, Y.gv P, Y.ov P] ∧ OwnP P Y ∧ HpLe Y.in hn) := by
  obtain ⟨L, rfl, rfl, rfl, hv⟩ := h.open hn
  obtain ⟨vv, mv, hg1, hg2⟩ := h.guests
  have hg4 := hn.g4
  have np := hn.p1
  have no := hn.o1
  refine enter Tryz.func32 ?_
  refine run ?_
  intro B1 B2 B3
  refine callB (fun wc hG => copyPages_e P.pages _ (h.pages.good hG) (by omega)) (fun v1 h1 hA => ?_)
  obtain ⟨pb, pcap, pc, rfl, rfl, rp⟩ := hA.own.row (n := P.pages.length) (by simp) (by have := hn.p0; omega)
  refine ops_perm (_ ++ [⟨pb, pc, 56⟩]) List.perm_append_comm ?_
  simp only [List.cons_append, List.nil_append]
  refine run ?_
  refine callB (fun wc hG => copyGuests_e hg4 hs vv mv _ (hg1.good hG) (fun i hi => ⟨(hg2 i hi).1.good hG, (hg2 i hi).2.good hG⟩)) ?_
  rintro v2 h2 ⟨G, hgb, hGo, hown, hle⟩
  obtain ⟨gb, gcap, gc, rfl, rfl, rg⟩ := hGo.row (n := P.guests.length) (by simp) (by omega)
  refine ops_perm (_ ++ h2) List.perm_append_comm ?_
  simp only [List.cons_append, List.nil_append]
  refine run ?_
  refine callB (fun wc hG => copySeats_e P.on _ (h.on.good hG) (by omega)) (fun v3 h3 hO => ?_)
  obtain ⟨ob, ocap, oc, rfl, rfl, ro⟩ := hO.own.row (n := P.on.length) (by simp) (by have := hn.o0; omega)
  refine ops_perm (_ ++ [⟨ob, oc, 52⟩]) List.perm_append_comm ?_
  simp only [List.cons_append, List.nil_append]
  refine run ?_
  refine finA ?_
  refine ⟨⟨pb, pcap, gb, gcap, ob, ocap, pc, gc, oc, G⟩, rfl, ⟨rp, rg, ro, fun i hi => (hown i hi).1, fun i hi => (hown i hi).2, h.wf, hn, hs⟩, ?_⟩
  (refine hpLe_cnt fun a => ?_; have := HpLe.cnt hle a; simp only [cntB_app, cntB_cons, cntB_nil] at *; omega)
end Go.Proofs.YtdfkcjjbflcafaaGreat
