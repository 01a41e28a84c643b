/- Layer 18 (part): are two partitions the same? -/
import Derived.Test.YtdfkcjjbflcafaaGreatPartJ
namespace Go.Proofs.YtdfkcjjbflcafaaGreat
open Go.RowKit
set_option linter.unusedVariables false
set_option linter.unusedSimpArgs false
set_option maxRecDepth 20000
attribute [local irreducible] Hy St Ops DH DHF
theorem eqPages_e {w : World} (xs : List PgD) (u v : Value) (hu : SlAt w u 2 (xs.map pgV)) (hv : SlAt w v 2 (xs.map pgV)) : Fn Tryz.prog 35 [u, v].toArray w [] (fun r _ => r = .bool true) := by
  obtain ⟨q, cap, rfl, hne, hle⟩ := hu.opened
  obtain ⟨q2, cap2, rfl, hne2, _⟩ := hv.opened
  refine enter Tryz.func35 ?_
  refine run ?_
  refine st_cond _ rfl (fun hc => absurd hc (by simp)) (fun hc => ?_)
  refine run ?_
  refine loopS (σ := Nat) (fun k => [(5, .int .i64 (k : Int))]) (fun _ => []) (fun k => k ≤ xs.length) (fun k => xs.length - k) 0 (Nat.zero_le _) ?_
  rintro k m hm hk
  refine run ?_
  refine st_cond _ rfl (fun hc => ?_) (fun hc => ?_)
  · have hlt : k < xs.length := by simp at hc; omega
    obtain ⟨b, o, rfl⟩ := hne (by intro e; subst e; simp at hlt)
    obtain ⟨b2, o2, rfl⟩ := hne2 (by intro e; subst e; simp at hlt)
    have h1 := (hu.row hlt)
    have h2 := (hv.row hlt)
    simp only [pgV] at h1 h2
    refine run ?_
    refine drawAll ?_
    refine runD ?_
    refine run ?_
    refine st_cond _ rfl (fun hp => ?_) (fun hp => ?_)
    · simp [eqLeaves, eqLeaf] at hp
    · refine run ?_
      exact nextS (k + 1) hlt
  · refine run ?_
    exact fin1 rfl
theorem eqSeats_e {w : World} (xs : List StD) (u v : Value) (hu : SlAt w u 2 (xs.map stV)) (hv : SlAt w v 2 (xs.map stV)) : Fn Tryz.prog 37 [u, v].toArray w [] (fun r _ => r = .bool true) := by
  obtain ⟨q, cap, rfl, hne, hle⟩ := hu.opened
  obtain ⟨q2, cap2, rfl, hne2, _⟩ := hv.opened
  refine enter Tryz.func37 ?_
  refine run ?_
  refine st_cond _ rfl (fun hc => absurd hc (by simp)) (fun hc => ?_)
  refine run ?_
  refine loopS (σ := Nat) (fun k => [(5, .int .i64 (k : Int))]) (fun _ => []) (fun k => k ≤ xs.length) (fun k => xs.length - k) 0 (Nat.zero_le _) ?_
  rintro k m hm hk
  refine run ?_
  refine st_cond _ rfl (fun hc => ?_) (fun hc => ?_)
  · have hlt : k < xs.length := by simp at hc; omega
    obtain ⟨b, o, rfl⟩ := hne (by intro e; subst e; simp at hlt)
    obtain ⟨b2, o2, rfl⟩ := hne2 (by intro e; subst e; simp at hlt)
    have h1 := (hu.row hlt)
    have h2 := (hv.row hlt)
    simp only [stV] at h1 h2
    refine run ?_
    refine drawAll ?_
    refine runD ?_
    refine run ?_
    refine st_cond _ rfl (fun hp => ?_) (fun hp => ?_)
    · simp [eqLeaves, eqLeaf] at hp
    · refine run ?_
      exact nextS (k + 1) hlt
  · refine run ?_
    exact fin1 rfl
theorem eqMaps_e {w : World} (xs : List MpD) (u v : Value) (hu : SlAt w u 2 (xs.map mpV)) (hv : SlAt w v 2 (xs.map mpV)) : Fn Tryz.prog 98 [u, v].toArray w [] (fun r _ => r = .bool true) := by
  obtain ⟨q, cap, rfl, hne, hle⟩ := hu.opened
  obtain ⟨q2, cap2, rfl, hne2, _⟩ := hv.opened
  refine enter Tryz.func98 ?_
  refine run ?_
  refine st_cond _ rfl (fun hc => absurd hc (by simp)) (fun hc => ?_)
  refine run ?_
  refine loopS (σ := Nat) (fun k => [(5, .int .i64 (k : Int))]) (fun _ => []) (fun k => k ≤ xs.length) (fun k => xs.length - k) 0 (Nat.zero_le _) ?_
  rintro k m hm hk
  refine run ?_
  refine st_cond _ rfl (fun hc => ?_) (fun hc => ?_)
  · have hlt : k < xs.length := by simp at hc; omega
    obtain ⟨b, o, rfl⟩ := hne (by intro e; subst e; simp at hlt)
    obtain ⟨b2, o2, rfl⟩ := hne2 (by intro e; subst e; simp at hlt)
    have h1 := (hu.row hlt)
    have h2 := (hv.row hlt)
    simp only [mpV] at h1 h2
    refine run ?_
    refine drawAll ?_
    refine runD ?_
    refine run ?_
    refine st_cond _ rfl (fun hp => ?_) (fun hp => ?_)
    · simp [eqLeaves, eqLeaf] at hp
    · refine run ?_
      exact nextS (k + 1) hlt
  · refine run ?_
    exact fin1 rfl
theorem eqNumbers_e {w : World} (xs : List Int) (u v : Value) (hu : SlAt w u 1 (xs.map inV)) (hv : SlAt w v 1 (xs.map inV)) : Fn Tryz.prog 97 [u, v].toArray w [] (fun r _ => r = .bool true) := by
  obtain ⟨q, cap, rfl, hne, hle⟩ := hu.opened
  obtain ⟨q2, cap2, rfl, hne2, _⟩ := hv.opened
  refine enter Tryz.func97 ?_
  refine run ?_
  refine st_cond _ rfl (fun hc => absurd hc (by simp)) (fun hc => ?_)
  refine run ?_
  refine loopS (σ := Nat) (fun k => [(5, .int .i64 (k : Int))]) (fun _ => []) (fun k => k ≤ xs.length) (fun k => xs.length - k) 0 (Nat.zero_le _) ?_
  rintro k m hm hk
  refine run ?_
  refine st_cond _ rfl (fun hc => ?_) (fun hc => ?_)
  · have hlt : k < xs.length := by simp at hc; omega
    obtain ⟨b, o, rfl⟩ := hne (by intro e; subst e; simp at hlt)
    obtain ⟨b2, o2, rfl⟩ := hne2 (by intro e; subst e; simp at hlt)
    have h1 := rangeAt_cell0 (hu.row hlt)
    have h2 := rangeAt_cell0 (hv.row hlt)
    simp only [inV, Nat.mul_one] at h1 h2
    refine run ?_
    refine drawAll ?_
    refine runD ?_
    refine run ?_
    refine st_cond _ rfl (fun hp => ?_) (fun hp => ?_)
    · simp [eqLeaves, eqLeaf] at hp
    · refine run ?_
      exact nextS (k + 1) hlt
  · refine run ?_
    exact fin1 rfl
/-- What a guest's cells are. -/
abbrev gsV (g : GsD) (vv mv : Value) : List Value := [.bool g.live, .bool g.dying, .int .i64 g.first, vv, mv]
theorem eqGuest_e {w : World} (g g' : GsD) (e : g' = g) (a b c d : Value) (ha : SlAt w a 1 (g.vcpus.map inV)) (hb : SlAt w b 2 (g.maps.map mpV)) (hc : SlAt w c 1 (g.vcpus.map inV)) (hd : SlAt w d 2 (g.maps.map mpV)) :
    Fn Tryz.prog 69 [.agg #[.bool g.live, .bool g.dying, .int .i64 g.first, a, b], .agg #[.bool g'.live, .bool g'.dying, .int .i64 g'.first, c, d]].toArray w [] (fun r _ => r = .bool true) := by
  refine enter Tryz.func69 ?_
  refine run ?_
  intro B C
  refine runG ?_
  refine callEG (fun hg wc hG => eqNumbers_e _ _ _ (ha.good hG) (hc.good hG)) ?_
  refine runG ?_
  refine callEG (fun hg wc hG => eqMaps_e _ _ _ (hb.good hG) (hd.good hG)) ?_
  refine runG ?_
  refine fin1 ?_
  subst e
  simp
theorem eqGuests_e {w : World} {u v : Value} {P : PtD} (hl : P.guests.length ≤ 281474976710656) (vv mv vv' mv' : Nat → Value) (hu : SlAt w u 5 ((List.range P.guests.length).map fun i => [.bool (P.gs i).live, .bool (P.gs i).dying, .int .i64 (P.gs i).first, vv i, mv i])) (hu2 : ∀ i, i < P.guests.length → SlAt w (vv i) 1 ((P.gs i).vcpus.map inV) ∧ SlAt w (mv i) 2 ((P.gs i).maps.map mpV))
    (hv : SlAt w v 5 ((List.range P.guests.length).map fun i => [.bool (P.gs i).live, .bool (P.gs i).dying, .int .i64 (P.gs i).first, vv' i, mv' i])) (hv2 : ∀ i, i < P.guests.length → SlAt w (vv' i) 1 ((P.gs i).vcpus.map inV) ∧ SlAt w (mv' i) 2 ((P.gs i).maps.map mpV)) :
    Fn Tryz.prog 36 [u, v].toArray w [] (fun r _ => r = .bool true) := by
  obtain ⟨⟨q, cap, rfl, hne⟩, _⟩ := hu
  obtain ⟨⟨q2, cap2, rfl, hne2⟩, _⟩ := hv
  simp only [List.length_map, List.length_range]
  refine enter Tryz.func36 ?_
  refine run ?_
  refine st_cond _ rfl (fun hc => absurd hc (by simp)) (fun hc => ?_)
  refine run ?_
  refine loopS (σ := Nat) (fun k => [(5, .int .i64 (k : Int))]) (fun _ => []) (fun k => k ≤ P.guests.length) (fun k => P.guests.length - k) 0 (Nat.zero_le _) ?_
  rintro k m hm hk
  refine run ?_
  refine st_cond _ rfl (fun hc => ?_) (fun hc => ?_)
  · have hlt : k < P.guests.length := by simp at hc; omega
    have hnn : ∀ f : Nat → List Value, (List.range P.guests.length).map f ≠ [] := fun f e => by rw [List.map_eq_nil_iff, List.range_eq_nil] at e; omega
    obtain ⟨b, o, rfl, h1⟩ := hne (hnn _)
    obtain ⟨b2, o2, rfl, h2⟩ := hne2 (hnn _)
    have h1 := h1 k _ (getD_range_map _ hlt)
    have h2 := h2 k _ (getD_range_map _ hlt)
    obtain ⟨a1, a2⟩ := hu2 k hlt
    obtain ⟨a3, a4⟩ := hv2 k hlt
    refine run ?_
    refine drawAll ?_
    refine runD ?_
    refine callD (fun wc hG => eqGuest_e (P.gs k) (P.gs k) rfl _ _ _ _ (a1.good hG) (a2.good hG) (a3.good hG) (a4.good hG)) ?_
    refine runD ?_
    refine run ?_
    refine st_cond _ rfl (fun hp => absurd hp (by simp)) (fun hp => ?_)
    refine run ?_
    exact nextS (k + 1) hlt
  · refine run ?_
    exact fin1 rfl
theorem eqPart_e {w : World} {pv gv ov pv' gv' ov' : Value} {P : PtD} (h : PartG w pv gv ov P) (h' : PartG w pv' gv' ov' P) : Fn Tryz.prog 20 [.agg #[pv, gv, ov], .agg #[pv', gv', ov']].toArray w [] (fun r _ => r = .bool true) := by
  obtain ⟨a1, a2, a3⟩ := h.agg
  obtain ⟨b1, b2, b3⟩ := h'.agg
  obtain ⟨p1, ⟨vv, mv, g1, g2⟩, o1, wf⟩ := h
  obtain ⟨p1', ⟨vv', mv', g1', g2'⟩, o1', _⟩ := h'
  obtain ⟨p, pc, rfl, _⟩ := p1.opened
  obtain ⟨o, oc, rfl, _⟩ := o1.opened
  obtain ⟨g, gc, rfl, hl⟩ : ∃ g gc, gv = .slice g P.guests.length gc ∧ P.guests.length ≤ 281474976710656 := by
    obtain ⟨⟨g, gc, e, _⟩, hl⟩ := g1
    simp only [List.length_map, List.length_range] at e hl
    exact ⟨g, gc, e, hl⟩
  refine enter Tryz.func20 ?_
  refine run ?_
  intro B C
  refine run ?_
  refine callE (fun wc hG => eqPages_e _ _ _ (p1.good hG) (p1'.good hG)) ?_
  refine runG ?_
  refine callEG (fun hg wc hG => eqGuests_e hl _ _ _ _ (g1.good hG) (fun i hi => ⟨(g2 i hi).1.good hG, (g2 i hi).2.good hG⟩) (g1'.good hG) (fun i hi => ⟨(g2' i hi).1.good hG, (g2' i hi).2.good hG⟩)) ?_
  refine runG ?_
  refine callEG (fun hg wc hG => eqSeats_e _ _ _ (o1.good hG) (o1'.good hG)) ?_
  refine runG ?_
  refine fin1 ?_
  rfl
end Go.Proofs.YtdfkcjjbflcafaaGreat
