/- Layer 17: BbmNone: the law. -/
import Derived.Test.YtcjbpdejlfomkaaTlI
namespace Go.Proofs.Ytcjbpdejlfomkaa
open Go.RowKit
set_option linter.unusedVariables false
set_option linter.unusedSimpArgs false
set_option maxRecDepth 20000
attribute [local irreducible] Hy St Ops DH DHF DE1 DE2 DE3 DS DCh
theorem eqInvals_e {w : World} (xs : List IvD) (u v : Value) (hu : SlAt w u 4 (xs.map ivV)) (hv : SlAt w v 4 (xs.map ivV)) : Fn Try.prog 18 [u, v].toArray w [] (fun r _ => r = .bool true) := by
  obtain ⟨q, cap, rfl, hne, hle⟩ := hu.opened
  obtain ⟨q2, cap2, rfl, hne2, _⟩ := hv.opened
  refine enter Try.func18 ?_
  refine run ?_
  refine st_cond _ rfl (fun hc => absurd hc (by simp)) (fun hc => ?_)
  refine run ?_
  refine loopS (σ := Nat) (fun k => [(5, .int .i64 (k : Int))]) (fun _ => []) (fun k => k ≤ xs.length) (fun k => xs.length - k) 0 (Nat.zero_le _) ?_
  rintro k m hm hk
  refine run ?_
  refine st_cond _ rfl (fun hc => ?_) (fun hc => ?_)
  · have hlt : k < xs.length := by simp at hc; omega
    obtain ⟨b, o, rfl⟩ := hne (by intro e; subst e; simp at hlt)
    obtain ⟨b2, o2, rfl⟩ := hne2 (by intro e; subst e; simp at hlt)
    have h1 := hu.row hlt
    have h2 := hv.row hlt
    refine run ?_
    refine drawAll ?_
    refine runD ?_
    refine run ?_
    rw [eqIv]
    refine st_cond _ rfl (fun hp => ?_) (fun hp => ?_)
    · simp at hp
    · refine run ?_
      exact nextS (k + 1) hlt
  · refine run ?_
    exact fin1 rfl
theorem tlbWeight_e (n m cn cm : Nat) (q q2 : Option Addr) (w : World) (hn : n ≤ 281474976710656) (hm : m ≤ 281474976710656) : Fn Try.prog 51 [.agg #[.slice q n cn, .slice q2 m cm]].toArray w [] (fun r _ => r = .int .i64 ((n : Int) + m)) := by
  refine enter Try.func51 ?_
  refine run ?_
  intro B
  exact fin1 rfl
/-- An ask as it lies: a script, TLBs, machines. -/
structure AkAt (w : World) (wv fv lv tv vv : Value) (S : SkD) (ts : List TlD) (vs : List Int) : Prop where
  s : SkAt w wv fv lv S
  t : TlAt w tv ts
  v : SlAt w vv 1 (vs.map inV)
  cap : ∀ t ∈ ts, t.es.length ≤ t.ec
  el : ∀ t ∈ ts, t.es.length ≤ 140737488351232 ∧ t.ds.length ≤ 140737488351232
  tl : ts.length ≤ 140737488351232
  vl : vs.length ≤ 140737488351232
theorem AkAt.good {w w' : World} {hp : Hp} {wv fv lv tv vv : Value} {S : SkD} {ts : List TlD} {vs : List Int} (h : AkAt w wv fv lv tv vv S ts vs) (hG : Good w [] hp w') : AkAt w' wv fv lv tv vv S ts vs := ⟨h.s.good hG, h.t.good hG, h.v.good hG, h.cap, h.el, h.tl, h.vl⟩
theorem heavy17_e {w : World} {wv fv lv tv vv : Value} {S : SkD} {ts : List TlD} {vs : List Int} (h : AkAt w wv fv lv tv vv S ts vs) : Fn Try.prog 12 [.agg #[wv, .int .i64 S.root, fv, lv, tv, vv]].toArray w [] (fun u _ => ∃ b, u = .bool b ∧ (b = false → ts.length ≤ 600 ∧ vs.length ≤ 600)) := by
  have h' := h
  obtain ⟨q1, c1, rfl, _, _⟩ := h.s.ws.opened
  obtain ⟨q2, c2, rfl, _, _⟩ := h.s.fr.opened
  obtain ⟨q3, c3, rfl, _, _⟩ := h.s.ac.opened
  obtain ⟨q4, c4, rfl, hne, _⟩ := h.t.rows.opened
  obtain ⟨q5, c5, rfl, _, _⟩ := h.v.opened
  have htl := h.tl
  have hvl := h.vl
  refine enter Try.func12 ?_
  refine run ?_
  intro B
  refine run ?_
  refine loopS (σ := Nat × Int) (fun s => [(3, .int .i64 s.2), (4, .int .i64 (s.1 : Int))]) (fun s => [⟨B, #[.slice q1 S.ws.length c1, .int .i64 S.root, .slice q2 S.free.length c2, .slice q3 S.acts.length c3, .slice q4 ts.length c4, .slice q5 vs.length c5], 31⟩]) (fun s => s.1 ≤ ts.length ∧ (ts.length : Int) + vs.length ≤ s.2 ∧ s.2 ≤ 562949953421312) (fun s => ts.length - s.1) (0, (ts.length : Int) + vs.length) ⟨Nat.zero_le _, Int.le_refl _, by dsimp only; omega⟩ ?_
  rintro ⟨k, n⟩ m hm ⟨hk, h0, h1⟩
  dsimp only at hm hk h0 h1 ⊢
  refine runG ?_
  refine st_cond _ rfl (fun hc => ?_) (fun hc => ?_)
  · have hc' : k < ts.length ∧ n < 1048576 := by simp at hc; omega
    obtain ⟨b3, o3, rfl⟩ := hne (by intro e; rw [e] at hc'; simp at hc')
    have hr := h.t.rows.row hc'.1
    have hel := h.el _ (getD_mem hc'.1)
    generalize ts.getD k default = t at hr hel
    refine run ?_
    refine callE (fun wc hG => tlbWeight_e t.es.length t.ds.length t.ec t.dc t.ep t.dp wc (by omega) (by omega)) ?_
    refine run ?_
    exact nextS (k + 1, n + ((t.es.length : Int) + t.ds.length)) ⟨hc'.1, by dsimp only; omega, by dsimp only; omega⟩
  · refine runG ?_
    cases hq : decide (600 < n) with
    | true =>
      refine opG (v := .bool true) (hy := fun hg => by cases hg) (h := ?_)
      refine runG ?_
      refine fin1 ⟨_, rfl, fun hb => ?_⟩
      cases hb
    | false =>
      have hq' : ¬ 600 < n := by simpa using hq
      simp only [show wnt false false = true from rfl, gv_true]
      refine opsGT ?_ rfl
      refine callV (fun wc hG => heavy_e (h'.s.good hG)) ?_
      rintro _ ⟨hb, rfl, _⟩
      refine runG ?_
      refine fin1 ⟨_, rfl, fun hb => ?_⟩
      omega
end Go.Proofs.Ytcjbpdejlfomkaa
