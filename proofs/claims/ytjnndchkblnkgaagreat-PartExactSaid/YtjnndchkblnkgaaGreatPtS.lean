/- Layer 18 (part): any partition copied by the reference. -/
import Derived.Test.YtjnndchkblnkgaaGreatPtR
import Derived.Test.YtjnndchkblnkgaaGreatPtE
import Derived.Test.YtjnndchkblnkgaaGreatPtP
import Derived.Test.YtjnndchkblnkgaaGreatPtI
import Derived.Test.YtjnndchkblnkgaaGreatPtD
namespace Go.Proofs.YtjnndchkblnkgaaGreat
open Go.RowKit
set_option linter.unusedVariables false
set_option linter.unusedSimpArgs false
set_option maxRecDepth 20000
attribute [local irreducible] Hy St Ops DH DHF
/-- Rows that lie in blocks of one's own. -/
def CopR (P : PtD) (u : Value) (hn : Hp) : Prop := ∃ (p g o : Option Addr) (pc gc oc : Nat) (h : Hp), u = .agg #[.slice p P.pages.length pc, .slice g P.guests.length gc, .slice o P.on.length oc] ∧ (∀ w, Here h w → PartG w (.slice p P.pages.length pc) (.slice g P.guests.length gc) (.slice o P.on.length oc) P) ∧ HpLe h hn
theorem copyGuestsN_e {w : World} {P : PtD} (hs : P.Small 1000) (vv mv : Nat → Value) (gv : Value) (h : SlAt w gv 5 ((List.range P.guests.length).map fun i => [.bool (P.gs i).live, .bool (P.gs i).dying, .int .i64 (P.gs i).first, vv i, mv i])) (h2 : ∀ i, i < P.guests.length → SlAt w (vv i) 1 ((P.gs i).vcpus.map inV) ∧ SlAt w (mv i) 2 ((P.gs i).maps.map mpV)) :
    Fn Tryz.prog 19 [gv].toArray w [] (fun u hn => ∃ (G : Nat → GB) (hg : Hp), Own 62 5 u hg ((List.range P.guests.length).map (gsRow P G)) ∧ (∀ i, i < P.guests.length → Own 3 1 (G i).vv (G i).hv ((P.gs i).vcpus.map inV) ∧ Own 79 2 (G i).mv (G i).hm ((P.gs i).maps.map mpV)) ∧ HpLe (hg ++ ghs G P.guests.length) hn) := by
  obtain ⟨⟨q, cap, rfl, hne⟩, _⟩ := h
  simp only [List.length_map, List.length_range]
  have hgl := hs.gs
  refine enter Tryz.func19 ?_
  refine run ?_
  refine loopS (σ := Nat × Value × Hp × (Nat → GB)) (fun s => [(3, s.2.1), (4, .int .i64 (s.1 : Int))]) (fun s => s.2.2.1 ++ ghs s.2.2.2 s.1) (fun s => s.1 ≤ P.guests.length ∧ Acc 62 5 s.2.1 s.2.2.1 ((List.range s.1).map (gsRow P s.2.2.2)) ∧ ∀ i, i < s.1 → Own 3 1 (s.2.2.2 i).vv (s.2.2.2 i).hv ((P.gs i).vcpus.map inV) ∧ Own 79 2 (s.2.2.2 i).mv (s.2.2.2 i).hm ((P.gs i).maps.map mpV)) (fun s => P.guests.length - s.1) (0, _, [], fun i => ⟨vv i, mv i, [], []⟩) ⟨by simp, Acc.nil _ _, fun i hi => absurd hi (by simp)⟩ ?_
  rintro ⟨k, v, ha, G⟩ m hm ⟨hk, hA, hown⟩
  dsimp only at hm hk hA hown ⊢
  refine run ?_
  refine st_cond _ rfl (fun hc => ?_) (fun hc => ?_)
  · have hlt : k < P.guests.length := by simp at hc; omega
    obtain ⟨b, o, rfl, hr⟩ := hne (by intro e; rw [List.map_eq_nil_iff, List.range_eq_nil] at e; omega)
    have h1 := hr k _ (getD_range_map _ (by omega))
    obtain ⟨a1, a2⟩ := h2 k (by omega)
    have sv := hs.vc k (by omega)
    refine run ?_
    refine callB (fun wc hG => copyGuest_e (P.gs k) (vv k) (mv k) (a1.good hG) (a2.good hG) (by omega) (by omega)) ?_
    rintro _ hn ⟨b2, rfl, o1, o2, hle⟩
    refine ops_le (ha ++ (ghs G k ++ (b2.hv ++ b2.hm))) (by (refine hpLe_cnt fun a => ?_; have := HpLe.cnt hle a; simp only [cntB_app, cntB_cons, cntB_nil] at *; omega)) ?_
    refine run ?_
    intro T
    refine appendA (c := gsRow P (updG G k b2) k) hA (fun v' ha' hA' => ?_) (by simp; omega) (news_own (m := 5) mh (by simp only [gsRow, updG_self]; rfl)) (hp' := ⟨T, #[.bool (P.gs k).live, .bool (P.gs k).dying, .int .i64 (P.gs k).first, b2.vv, b2.mv], 62⟩ :: (ghs G k ++ (b2.hv ++ b2.hm))) (hperm := by (refine perm_cnt fun a => ?_; simp only [cntB_app, cntB_cons, cntB_nil]; omega)) (hl := rfl) (h1 := ?_)
    · refine run ?_
      refine nextS (k + 1, v', ha', updG G k b2) (hm := by dsimp only; omega) ⟨hlt, ?_, fun i hi => ?_⟩ (h2 := ?_)
      · dsimp only
        rw [List.range_succ, List.map_append]
        have e : (List.range k).map (gsRow P (updG G k b2)) = (List.range k).map (gsRow P G) := List.map_congr_left fun i hi => by
          have := List.mem_range.1 hi
          simp only [gsRow, updG_ne G k b2 (show i ≠ k by omega)]
        rw [e]
        exact hA'
      · dsimp only at hi ⊢
        rcases Nat.lt_succ_iff_lt_or_eq.1 hi with hi | rfl
        · rw [updG_ne _ _ _ (by omega)]; exact hown i hi
        · rw [updG_self]; exact ⟨o1, o2⟩
      · dsimp only
        rw [ghs, ghs_congr (G := G) k (fun i hi => updG_ne _ _ _ (by omega)), updG_self]
        (refine hpLe_cnt fun a => ?_; simp only [cntB_app, cntB_cons, cntB_nil]; omega)
    · simp only [gsRow, updG_self, List.all_cons, List.all_nil, o1.one, o2.one]; rfl
  have hkn : k = P.guests.length := by simp at hc; omega
  subst hkn
  refine run ?_
  refine fin1 ?_
  refine ⟨G, ha, hA.own, hown, HpLe.refl _⟩
theorem copyPartN_e {w : World} {pv gv ov : Value} {P : PtD} (h : PartG w pv gv ov P) (hs : P.Small 1000) : Fn Tryz.prog 5 [.agg #[pv, gv, ov]].toArray w [] (CopR P) := by
  obtain ⟨vv, mv, hg1, hg2⟩ := h.guests
  have hp' := h.pages
  have ho' := h.on
  obtain ⟨p, pc, g, gc, o, oc, rfl, rfl, rfl, hl1, hl2, hl3⟩ := h.slices
  have np := hs.pg
  have no := hs.on
  have ng := hs.gs
  refine enter Tryz.func5 ?_
  refine run ?_
  intro B1 B2 B3
  refine callB (fun wc hG => copyPages_e P.pages _ (hp'.good hG) (by omega)) (fun v1 h1 hA => ?_)
  obtain ⟨ad1, c1, e1⟩ := hA.own.opened
  rw [List.length_map] at e1
  subst e1
  refine ops_perm (_ ++ h1) List.perm_append_comm ?_
  simp only [List.cons_append, List.nil_append]
  refine run ?_
  refine callB (fun wc hG => copyGuestsN_e hs vv mv _ (hg1.good hG) (fun i hi => ⟨(hg2 i hi).1.good hG, (hg2 i hi).2.good hG⟩)) ?_
  rintro v2 h2 ⟨G, hgb, hGo, hown, hle⟩
  obtain ⟨ad2, c2, e2⟩ := hGo.opened
  rw [List.length_map, List.length_range] at e2
  subst e2
  refine ops_perm (_ ++ h2) List.perm_append_comm ?_
  simp only [List.cons_append, List.nil_append]
  refine run ?_
  refine callB (fun wc hG => copySeats_e P.on _ (ho'.good hG) (by omega)) (fun v3 h3 hO => ?_)
  obtain ⟨ad3, c3, e3⟩ := hO.own.opened
  rw [List.length_map] at e3
  subst e3
  refine ops_perm (_ ++ h3) List.perm_append_comm ?_
  simp only [List.cons_append, List.nil_append]
  refine run ?_
  refine finA ?_
  refine ⟨ad1, ad2, ad3, c1, c2, c3, h1 ++ (hgb ++ (ghs G P.guests.length ++ h3)), rfl, fun w' hw => ?_, ?_⟩
  · have a1 := hA.own.lie (w := w') (fun e he => hw e (by simp [he])) (by rw [List.length_map]; omega)
    have a2 := hGo.lie (w := w') (fun e he => hw e (by simp [he])) (by rw [List.length_map, List.length_range]; omega)
    have a3 := hO.own.lie (w := w') (fun e he => hw e (by simp [he])) (by rw [List.length_map]; omega)
    refine ⟨a1, ⟨fun i => (G i).vv, fun i => (G i).mv, a2, fun i hi => ?_⟩, a3, h.wf⟩
    have sv := hs.vc i hi
    exact ⟨(hown i hi).1.lie (fun e he => hw e (by simp [ghs_mem _ hi (.inl he)])) (by rw [List.length_map]; omega), (hown i hi).2.lie (fun e he => hw e (by simp [ghs_mem _ hi (.inr he)])) (by rw [List.length_map]; omega)⟩
  · (refine hpLe_cnt fun a => ?_; have := HpLe.cnt hle a; simp only [cntB_app, cntB_cons, cntB_nil] at *; omega)
end Go.Proofs.YtjnndchkblnkgaaGreat
