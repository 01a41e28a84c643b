/- Texts of one's own, merged: the engine, what the functions do, plain laws. -/
import Derived.Test.YtdaenalnmdmflaaGreatAccP5
namespace Go.Proofs.YtdaenalnmdmflaaGreat
open Go.RowKit
set_option linter.unusedVariables false
set_option linter.unusedSimpArgs false
set_option maxRecDepth 20000
attribute [local irreducible] Hy St Ops DH DHF DE1 DE2 DE3 DS DCh DWF
theorem Own.setF {α : Type} {f : α → List Value} {sz : Nat} (hf : ∀ a, (f a).length = sz ∧ (f a).all (·.oneCell') = true) (h0 : 0 < sz) {e : Nat} {v : Value} {h : Hp} {xs : List α} (hA : Own e sz v h (xs.map f)) {k : Nat} (hk : k < xs.length) : ∃ g cap cur, v = .slice (some ⟨g, 0, none⟩) xs.length cap ∧ h = [⟨g, cur, e⟩] ∧ k * sz + sz ≤ cur.size ∧
    ∀ z : α, Own e sz v [⟨g, putAt cur (k * sz) (f z), e⟩] ((xs.set k z).map f) := by
  obtain ⟨g, cap, cur, rfl, rfl, hr⟩ := hA.row (n := xs.length) (by simp) (by omega)
  have hall : ∀ c ∈ xs.map f, c.length = sz := fun c hc => by
    obtain ⟨a, _, rfl⟩ := List.mem_map.1 hc
    exact (hf a).1
  have hi : (xs.map f)[k]? = some (f xs[k]) := by
    rw [List.getElem?_map, List.getElem?_eq_getElem hk]; rfl
  have hsz := hr.size
  have hle := hr.le
  have hks : k * sz + sz ≤ cur.size := by
    have : (k + 1) * sz ≤ cap * sz := Nat.mul_le_mul_right _ (by omega)
    rw [Nat.add_mul, Nat.one_mul] at this
    omega
  refine ⟨g, cap, cur, rfl, rfl, hks, fun z => ⟨fun c hc => ?_, .inr ⟨g, cap, _, by simp, rfl, ?_⟩⟩⟩
  · obtain ⟨a, _, rfl⟩ := List.mem_map.1 hc
    exact hf a
  · have h2 := hr.put hall hi (k := 0) (vs := f z) (by simp [(hf z).1])
    have e2 : ((xs.set k z).map f).length = xs.length := by simp
    rw [e2, List.map_set]
    have e3 : List.take 0 (f xs[k]) ++ f z ++ List.drop (0 + (f z).length) (f xs[k]) = f z := by
      rw [List.take_zero, List.nil_append, List.drop_of_length_le (by rw [(hf z).1, (hf _).1]; omega), List.append_nil]
    rw [e3] at h2
    exact h2
theorem spoilTLB_e {w : World} {v u : Value} {he hd : Hp} (es : List EnD) (ds : List IvD) (h1 : Own 88 14 v he (es.map enV)) (h2 : Own 94 4 u hd (ds.map ivV)) (hN : HereN (he ++ hd) w) (hl : es.length < 100000) (hl2 : ds.length < 100000) : Fn Tryz.prog 17 [.agg #[v, u]].toArray w ((he ++ hd).map (·.b)) (fun r hn => r = .tuple #[]) := by
  obtain ⟨q, cap, ev⟩ := h1.opened
  rw [List.length_map] at ev
  subst ev
  obtain ⟨q2, cap2, ev2⟩ := h2.opened
  rw [List.length_map] at ev2
  subst ev2
  refine enterM _ hN Tryz.func17 ?_
  refine run ?_
  intro B
  refine run ?_
  refine loopS (σ := Nat × Hp × List EnD) (fun s => [(2, .int .i64 (s.1 : Int))]) (fun s => ⟨B, #[.slice q es.length cap, .slice q2 ds.length cap2], 35⟩ :: (s.2.1 ++ hd)) (fun s => s.1 ≤ es.length ∧ s.2.2.length = es.length ∧ Own 88 14 (.slice q es.length cap) s.2.1 (s.2.2.map enV)) (fun s => es.length - s.1) (0, he, es) ⟨Nat.zero_le _, rfl, h1⟩ ?_
  rintro ⟨k, h, ys⟩ m hm ⟨hk, hyl, hO⟩
  dsimp only at hm hk hyl hO ⊢
  refine run ?_
  refine st_cond _ rfl (fun hc => ?_) (fun hc => ?_)
  · have hlt : k < es.length := by simp at hc; omega
    obtain ⟨g, cap', cur, eg, rfl, hsz, hset⟩ := hO.setF en_all1 (by decide) (k := k) (by omega)
    rw [hyl] at eg
    cases eg
    simp only [List.cons_append, List.nil_append]
    refine run ?_
    exact nextS (k + 1, [⟨g, putAt cur (k * 14) (enV ⟨-9, 0, 0, false, 0, 0, 0, 0, false, false, false, false, false, 0⟩), 88⟩], ys.set k ⟨-9, 0, 0, false, 0, 0, 0, 0, false, false, false, false, false, 0⟩) (hm := by dsimp only; omega) ⟨hlt, by rw [List.length_set]; exact hyl, hset _⟩ (h2 := by simp only [putAt, enV]; (refine hpLe_cnt fun a => ?_; simp only [cntB_app, cntB_cons, cntB_nil] <;> omega))
  refine run ?_
  refine loopS (σ := Nat × Hp × List IvD) (fun s => [(3, .int .i64 (s.1 : Int))]) (fun s => ⟨B, #[.slice q es.length cap, .slice q2 ds.length cap2], 35⟩ :: s.2.1) (fun s => s.1 ≤ ds.length ∧ s.2.2.length = ds.length ∧ Own 94 4 (.slice q2 ds.length cap2) s.2.1 (s.2.2.map ivV)) (fun s => ds.length - s.1) (0, hd, ds) ⟨Nat.zero_le _, rfl, h2⟩ (hh := by (refine hpLe_cnt fun a => ?_; simp only [cntB_app, cntB_cons, cntB_nil] <;> omega)) ?_
  rintro ⟨k2, h2', ys2⟩ m2 hm2 ⟨hk2, hyl2, hO2⟩
  dsimp only at hm2 hk2 hyl2 hO2 ⊢
  refine run ?_
  refine st_cond _ rfl (fun hc => ?_) (fun hc => ?_)
  · have hlt : k2 < ds.length := by simp at hc; omega
    obtain ⟨g, cap', cur, eg, rfl, hsz, hset⟩ := hO2.setF iv_all1 (by decide) (k := k2) (by omega)
    rw [hyl2] at eg
    cases eg
    refine run ?_
    exact nextS (k2 + 1, [⟨g, putAt cur (k2 * 4) (ivV ⟨-9, 0, 0, 0⟩), 94⟩], ys2.set k2 ⟨-9, 0, 0, 0⟩) (hm := by dsimp only; omega) ⟨hlt, by rw [List.length_set]; exact hyl2, hset _⟩ (h2 := by simp only [putAt, ivV]; (refine hpLe_cnt fun a => ?_; simp only [cntB_app, cntB_cons, cntB_nil] <;> omega))
  refine run ?_
  exact fin0 rfl
structure Ak14 (w : World) (wv gv ev dv pv : Value) (ws : List Nat) (pgs : List Int) (es : List EnD) (ds : List IvD) (ps : List PkD) : Prop where
  w64 : W64 ws
  sw : SlAt w wv 1 (ws.map uV)
  wcap : ∃ q c, wv = .slice q ws.length c ∧ ws.length ≤ c
  sg : SlAt w gv 1 (pgs.map inV)
  se : SlAt w ev 14 (es.map enV)
  cap : ∃ q c, ev = .slice q es.length c ∧ es.length ≤ c
  sd : SlAt w dv 4 (ds.map ivV)
  sp : SlAt w pv 6 (ps.map pkV)
  wl : ws.length ≤ 281474976710656
  gl : pgs.length ≤ 281474976710656
  el : es.length ≤ 281474976710656
  dl : ds.length ≤ 281474976710656
  pl : ps.length ≤ 281474976710656
theorem Ak14.good {w w' : World} {hp : Hp} {wv gv ev dv pv : Value} {ws : List Nat} {pgs : List Int} {es : List EnD} {ds : List IvD} {ps : List PkD} (h : Ak14 w wv gv ev dv pv ws pgs es ds ps) (hG : Good w [] hp w') : Ak14 w' wv gv ev dv pv ws pgs es ds ps := ⟨h.w64, h.sw.good hG, h.wcap, h.sg.good hG, h.se.good hG, h.cap, h.sd.good hG, h.sp.good hG, h.wl, h.gl, h.el, h.dl, h.pl⟩
section
variable {w : World} {wv gv ev dv pv : Value} {ws : List Nat} {pgs : List Int} {es : List EnD} {ds : List IvD} {ps : List PkD} {one two : RtD} {fr ac : Int}
theorem heavy5_e (n m cn cm : Nat) (q q2 : Option Addr) (w : World) : Fn Tryz.prog 25 [.agg #[.slice q n cn, .int .i64 fr, .slice q2 m cm]].toArray w [] (fun u _ => u = .bool (decide ((2000 : Int) < n) || decide ((500 : Int) < m))) := by
  refine enter Tryz.func25 ?_
  refine runG ?_
  intro B
  exact fin1 rfl
theorem tlbWt_e (n m cn cm : Nat) (q q2 : Option Addr) (w : World) (hn : n ≤ 281474976710656) (hm : m ≤ 281474976710656) : Fn Tryz.prog 26 [.agg #[.slice q n cn, .slice q2 m cm]].toArray w [] (fun r _ => r = .int .i64 ((n : Int) + m)) := by
  refine enter Tryz.func26 ?_
  refine run ?_
  intro B
  refine run ?_
  exact fin1 rfl
theorem heavy14_e (h : Ak14 w wv gv ev dv pv ws pgs es ds ps) : Fn Tryz.prog 9 [.agg #[wv, .int .i64 fr, gv, .bool one.on, .int .i64 one.frame, .int .i64 one.tag, .bool two.on, .int .i64 two.frame, .int .i64 two.tag, .int .i64 ac, ev, dv, pv]].toArray w [] (fun u _ => ∃ b, u = .bool b ∧ (b = false → ws.length ≤ 2000 ∧ pgs.length ≤ 500 ∧ es.length + ds.length ≤ 200 ∧ ps.length ≤ 200)) := by
  obtain ⟨q1, c1, rfl, _, _⟩ := h.sw.opened
  obtain ⟨q2, c2, rfl, _, _⟩ := h.sg.opened
  obtain ⟨q3, c3, rfl, _⟩ := h.cap
  obtain ⟨q4, c4, rfl, _, _⟩ := h.sd.opened
  obtain ⟨q5, c5, rfl, _, _⟩ := h.sp.opened
  have h1 := h.wl
  have h2 := h.gl
  have h3 := h.el
  have h4 := h.dl
  have h5 := h.pl
  refine enter Tryz.func9 ?_
  refine runG ?_
  intro B
  refine callE (fun wc hG => heavy5_e _ _ _ _ _ _ wc) ?_
  refine runG ?_
  refine callEG (fun _ wc hG => tlbWt_e _ _ _ _ _ _ wc h3 h4) ?_
  refine runG ?_
  refine fin1 ⟨_, rfl, fun hb => ?_⟩
  simp only [Bool.or_eq_false_iff, decide_eq_false_iff_not] at hb
  omega
end
end Go.Proofs.YtdaenalnmdmflaaGreat
namespace Go.Proofs.YtdaenalnmdmflaaGreat
open Go.RowKit
set_option linter.unusedVariables false
set_option linter.unusedSimpArgs false
set_option maxRecDepth 20000
structure RgD where
  x0 : Nat
  x1 : Nat
  x2 : Nat
  x3 : Nat
  x4 : Nat
  x5 : Nat
  x6 : Nat
  x7 : Nat
  pc : Nat
  ttbr : Nat
  sctlr : Nat
  vbar : Nat
  elr : Nat
  esr : Nat
  far : Nat
deriving DecidableEq
def noRg : RgD := ⟨0, 0, 0, 0, 0, 0, 0, 0, 0, 0, 0, 0, 0, 0, 0⟩
instance : Inhabited RgD := ⟨noRg⟩
abbrev rgV (r : RgD) : List Value := [.int .u64 (r.x0 : Int), .int .u64 (r.x1 : Int), .int .u64 (r.x2 : Int), .int .u64 (r.x3 : Int), .int .u64 (r.x4 : Int), .int .u64 (r.x5 : Int), .int .u64 (r.x6 : Int), .int .u64 (r.x7 : Int), .int .u64 (r.pc : Int), .int .u64 (r.ttbr : Int), .int .u64 (r.sctlr : Int), .int .u64 (r.vbar : Int), .int .u64 (r.elr : Int), .int .u64 (r.esr : Int), .int .u64 (r.far : Int)]
structure VcD where
  r : RgD
  on : Int
deriving DecidableEq
instance : Inhabited VcD := ⟨⟨noRg, 0⟩⟩
abbrev vcV (c : VcD) : List Value := [.int .u64 (c.r.x0 : Int), .int .u64 (c.r.x1 : Int), .int .u64 (c.r.x2 : Int), .int .u64 (c.r.x3 : Int), .int .u64 (c.r.x4 : Int), .int .u64 (c.r.x5 : Int), .int .u64 (c.r.x6 : Int), .int .u64 (c.r.x7 : Int), .int .u64 (c.r.pc : Int), .int .u64 (c.r.ttbr : Int), .int .u64 (c.r.sctlr : Int), .int .u64 (c.r.vbar : Int), .int .u64 (c.r.elr : Int), .int .u64 (c.r.esr : Int), .int .u64 (c.r.far : Int), .int .i64 c.on]
structure CpD where
  r : RgD
  vm : Int
  vc : Int
  t : TlD
instance : Inhabited CpD := ⟨⟨noRg, 0, 0, default⟩⟩
abbrev cpV (c : CpD) : List Value := [.int .u64 (c.r.x0 : Int), .int .u64 (c.r.x1 : Int), .int .u64 (c.r.x2 : Int), .int .u64 (c.r.x3 : Int), .int .u64 (c.r.x4 : Int), .int .u64 (c.r.x5 : Int), .int .u64 (c.r.x6 : Int), .int .u64 (c.r.x7 : Int), .int .u64 (c.r.pc : Int), .int .u64 (c.r.ttbr : Int), .int .u64 (c.r.sctlr : Int), .int .u64 (c.r.vbar : Int), .int .u64 (c.r.elr : Int), .int .u64 (c.r.esr : Int), .int .u64 (c.r.far : Int), .int .i64 c.vm, .int .i64 c.vc, c.t.ev, c.t.dv]
structure CpAt (w : World) (v : Value) (cs : List CpD) : Prop where
  rows : SlAt w v 19 (cs.map cpV)
  en : ∀ c ∈ cs, SlAt w c.t.ev 14 (c.t.es.map enV)
  iv : ∀ c ∈ cs, SlAt w c.t.dv 4 (c.t.ds.map ivV)
theorem CpAt.good {w w' : World} {hp : Hp} {v : Value} {cs : List CpD} (h : CpAt w v cs) (hG : Good w [] hp w') : CpAt w' v cs := ⟨h.rows.good hG, fun t ht => (h.en t ht).good hG, fun t ht => (h.iv t ht).good hG⟩
structure VmD where
  live : Bool
  dying : Bool
  vmid : Int
  fs : List Int
  fp : Option Addr
  fc : Nat
  fr : List Int
  rp : Option Addr
  rc : Nat
  vs : List VcD
  vp : Option Addr
  vk : Nat
instance : Inhabited VmD := ⟨⟨false, false, 0, [], none, 0, [], none, 0, [], none, 0⟩⟩
abbrev VmD.fv (m : VmD) : Value := .slice m.fp m.fs.length m.fc
abbrev VmD.rv (m : VmD) : Value := .slice m.rp m.fr.length m.rc
abbrev VmD.vv (m : VmD) : Value := .slice m.vp m.vs.length m.vk
abbrev vmV (m : VmD) : List Value := [.bool m.live, .bool m.dying, .int .i64 m.vmid, m.fv, m.rv, m.vv]
structure VmAt (w : World) (v : Value) (ms : List VmD) : Prop where
  rows : SlAt w v 6 (ms.map vmV)
  fs : ∀ m ∈ ms, SlAt w m.fv 1 (m.fs.map inV)
  fr : ∀ m ∈ ms, SlAt w m.rv 1 (m.fr.map inV)
  vs : ∀ m ∈ ms, SlAt w m.vv 16 (m.vs.map vcV)
theorem VmAt.good {w w' : World} {hp : Hp} {v : Value} {cs : List VmD} (h : VmAt w v cs) (hG : Good w [] hp w') : VmAt w' v cs := ⟨h.rows.good hG, fun t ht => (h.fs t ht).good hG, fun t ht => (h.fr t ht).good hG, fun t ht => (h.vs t ht).good hG⟩
structure HyAt (w : World) (wv cv vv rv : Value) (ws : List Nat) (cs : List CpD) (vs : List VmD) (rs : List RgD) : Prop where
  w64 : W64 ws
  ws : SlAt w wv 1 (ws.map uV)
  cs : CpAt w cv cs
  vs : VmAt w vv vs
  rs : SlAt w rv 15 (rs.map rgV)
theorem HyAt.good {w w' : World} {hp : Hp} {wv cv vv rv : Value} {ws : List Nat} {cs : List CpD} {vs : List VmD} {rs : List RgD} (h : HyAt w wv cv vv rv ws cs vs rs) (hG : Good w [] hp w') : HyAt w' wv cv vv rv ws cs vs rs := ⟨h.w64, h.ws.good hG, h.cs.good hG, h.vs.good hG, h.rs.good hG⟩
def cpu0 : CpD := ⟨noRg, 0, 0, ⟨[], [], none, 0, none, 0⟩⟩
def vm0 : VmD := ⟨false, false, 0, [], none, 0, [], none, 0, [], none, 0⟩
theorem slAt_nil (w : World) (sz : Nat) : SlAt w (.slice none 0 0) sz [] := ⟨⟨none, 0, rfl, fun h => absurd rfl h⟩, by simp⟩
theorem CpAt.zero {w : World} {b t C : Nat} (h : w.heap[b]? = some (.cells ((List.replicate C (cpV cpu0)).flatten).toArray t (0, 0))) (hC : C ≤ 1000) : CpAt w (.slice (some ⟨b, 0, none⟩) C C) (List.replicate C cpu0) := by
  refine ⟨?_, fun c hc => ?_, fun c hc => ?_⟩
  · have := lie_rows (w := w) (b := b) (t := t) (cap := C) (sz := 19) (xs := List.replicate C (cpV cpu0)) h (by intro c hc; rw [List.eq_of_mem_replicate hc]; rfl) (by simp; omega)
    simpa using this
  · rw [List.eq_of_mem_replicate hc]; exact slAt_nil _ _
  · rw [List.eq_of_mem_replicate hc]; exact slAt_nil _ _
theorem VmAt.zero {w : World} {b t C : Nat} (h : w.heap[b]? = some (.cells ((List.replicate C (vmV vm0)).flatten).toArray t (0, 0))) (hC : C ≤ 1000) : VmAt w (.slice (some ⟨b, 0, none⟩) C C) (List.replicate C vm0) := by
  refine ⟨?_, fun c hc => ?_, fun c hc => ?_, fun c hc => ?_⟩
  · have := lie_rows (w := w) (b := b) (t := t) (cap := C) (sz := 6) (xs := List.replicate C (vmV vm0)) h (by intro c hc; rw [List.eq_of_mem_replicate hc]; rfl) (by simp; omega)
    simpa using this
  · rw [List.eq_of_mem_replicate hc]; exact slAt_nil _ _
  · rw [List.eq_of_mem_replicate hc]; exact slAt_nil _ _
  · rw [List.eq_of_mem_replicate hc]; exact slAt_nil _ _
attribute [local irreducible] Hy St Ops DH DHF DE1 DE2 DE3 DS DCh
theorem eqInvals_e {w : World} (xs : List IvD) (u v : Value) (hu : SlAt w u 4 (xs.map ivV)) (hv : SlAt w v 4 (xs.map ivV)) : Fn Tryz.prog 42 [u, v].toArray w [] (fun r _ => r = .bool true) := by
  obtain ⟨q, cap, rfl, hne, hle⟩ := hu.opened
  obtain ⟨q2, cap2, rfl, hne2, _⟩ := hv.opened
  refine enter Tryz.func42 ?_
  refine run ?_
  refine st_cond _ rfl (fun hc => absurd hc (by simp)) (fun hc => ?_)
  refine run ?_
  refine loopS (σ := Nat) (fun k => [(5, .int .i64 (k : Int))]) (fun _ => []) (fun k => k ≤ xs.length) (fun k => xs.length - k) 0 (Nat.zero_le _) ?_
  rintro k m hm hk
  refine run ?_
  refine st_cond _ rfl (fun hc => ?_) (fun hc => ?_)
  · have hlt : k < xs.length := by simp at hc; omega
    obtain ⟨b, o, rfl⟩ := hne (by intro e; subst e; simp at hlt)
    obtain ⟨b2, o2, rfl⟩ := hne2 (by intro e; subst e; simp at hlt)
    have h1 := hu.row hlt
    have h2 := hv.row hlt
    refine run ?_
    refine drawAll ?_
    refine runD ?_
    refine run ?_
    rw [eqIv]
    refine st_cond _ rfl (fun hp => ?_) (fun hp => ?_)
    · simp at hp
    · refine run ?_
      exact nextS (k + 1) hlt
  · refine run ?_
    exact fin1 rfl
theorem eqEntries_e {w : World} (xs : List EnD) (u v : Value) (hu : SlAt w u 14 (xs.map enV)) (hv : SlAt w v 14 (xs.map enV)) : Fn Tryz.prog 41 [u, v].toArray w [] (fun r _ => r = .bool true) := by
  obtain ⟨q, cap, rfl, hne, hle⟩ := hu.opened
  obtain ⟨q2, cap2, rfl, hne2, _⟩ := hv.opened
  refine enter Tryz.func41 ?_
  refine run ?_
  refine st_cond _ rfl (fun hc => absurd hc (by simp)) (fun hc => ?_)
  refine run ?_
  refine loopS (σ := Nat) (fun k => [(5, .int .i64 (k : Int))]) (fun _ => []) (fun k => k ≤ xs.length) (fun k => xs.length - k) 0 (Nat.zero_le _) ?_
  rintro k m hm hk
  refine run ?_
  refine st_cond _ rfl (fun hc => ?_) (fun hc => ?_)
  · have hlt : k < xs.length := by simp at hc; omega
    obtain ⟨b, o, rfl⟩ := hne (by intro e; subst e; simp at hlt)
    obtain ⟨b2, o2, rfl⟩ := hne2 (by intro e; subst e; simp at hlt)
    have h1 := hu.row hlt
    have h2 := hv.row hlt
    refine run ?_
    refine drawAll ?_
    refine runD ?_
    refine run ?_
    rw [eqEn]
    refine st_cond _ rfl (fun hp => ?_) (fun hp => ?_)
    · simp at hp
    · refine run ?_
      exact nextS (k + 1) hlt
  · refine run ?_
    exact fin1 rfl
theorem eqTLB_e {w : World} (a b : TlD) (he : a.es = b.es) (hd : a.ds = b.ds) (h1 : SlAt w a.ev 14 (a.es.map enV)) (h2 : SlAt w a.dv 4 (a.ds.map ivV)) (h3 : SlAt w b.ev 14 (b.es.map enV)) (h4 : SlAt w b.dv 4 (b.ds.map ivV)) : Fn Tryz.prog 15 [.agg (tlV a).toArray, .agg (tlV b).toArray].toArray w [] (fun r _ => r = .bool true) := by
  obtain ⟨es, ds, ep, ec, dp, dc⟩ := a
  obtain ⟨es2, ds2, ep2, ec2, dp2, dc2⟩ := b
  dsimp only at he hd
  subst he hd
  refine enter Tryz.func15 ?_
  refine run ?_
  intro B C
  refine runG ?_
  refine callE (fun wc hG => eqEntries_e es _ _ (h1.good hG) (h3.good hG)) ?_
  refine runG ?_
  refine callEG (fun _ wc hG => eqInvals_e ds _ _ (h2.good hG) (h4.good hG)) ?_
  refine runG ?_
  exact fin1 rfl
end Go.Proofs.YtdaenalnmdmflaaGreat
namespace Go.Proofs.YtdaenalnmdmflaaGreat
open Go.RowKit
set_option linter.unusedVariables false
set_option linter.unusedSimpArgs false
set_option maxRecDepth 20000
attribute [local irreducible] Hy St Ops DH DHF DE1 DE2 DE3 DS DCh DWF
theorem num14_e (n : Int) (w : World) : Fn Tryz.prog 13 [.int .i64 n].toArray w [] (fun u _ => u = .int .i64 n) := by
  refine enter Tryz.func13 ?_
  refine run ?_
  exact fin1 rfl
theorem uv_allW {ws : List Nat} : ∀ c ∈ ws.map uV, c.length = 1 ∧ c.all (·.oneCell') = true := by
  intro c hc
  obtain ⟨x, _, rfl⟩ := List.mem_map.1 hc
  exact ⟨rfl, rfl⟩
theorem own_madeW (b m : Nat) (hm : m ≤ 65536) : Own 130 1 (.slice (some ⟨b, 0, none⟩) m m) [⟨b, madeCells (Value.int .u64 0).cells (m * 1), 130⟩] ((List.replicate m 0).map uV) := by
  rw [show madeCells (Value.int .u64 0).cells (m * 1) = ((List.replicate m [Value.int .u64 0]).flatten).toArray from made_rows [.int .u64 0] m 1 rfl (by decide)]
  exact own_row b m _ (by rw [List.map_replicate]; rfl) rfl uv_allW (by simp) (by simp) (by unfold maxLen; omega)
def wkEn : EnD := ⟨2, 0, 0, true, 7, 0, 1, 0, true, false, false, false, false, 0⟩
def wkAc : AcC := ⟨List.replicate 16 0, ⟨false, 0, 0⟩, ⟨true, 0, 0⟩, ⟨0, false, false, false, -1, true⟩, 7, 0⟩
theorem wkAc_may : mayL 16 [wkEn] [] wkAc.one wkAc.two 7 0 = true := by decide +kernel
theorem wkAc_page : pageA wkAc [wkEn] = ⟨⟨[wkEn], []⟩, 1, noFt⟩ := by kernel_rfl
theorem wakes14_e (w : World) : Fn Tryz.prog 18 [].toArray w [] (fun u _ => u = .bool true) := by
  refine enter Tryz.func18 ?_
  refine runNB ?_
  refine make (m := 16) (fun M => ?_) (by decide)
  refine run ?_
  intro B1 B2 B3
  refine callB (fun wc hG => aPage_e (List.replicate 16 0) (fun x hx => by rw [(List.mem_replicate.1 hx).2]; decide) (by decide) 16 (by decide) (p := some ⟨M, 0, none⟩) [wkEn] [] wkAc.pk wkAc.one wkAc.two 7 0 (ev := .slice (some ⟨B2, 0, none⟩) 1 1) (dv := .slice none 0 0) ((own_madeW M 16 (by decide)).lie (fun e he => hG.here e (by obtain rfl := List.mem_singleton.1 he; simp)) (by simp)) (lie_rows (xs := [enV wkEn]) (hG.here _ (List.mem_cons_of_mem _ mh)) (fun c hc => by simp at hc; rcases hc with rfl | rfl <;> rfl) (by simp)) ((Own.nil 94 4).lie (fun b hb => by cases hb) (by decide)) ⟨_, _, rfl, Nat.le_refl 1⟩ (by decide) (by decide)) ?_
  rintro u hn ⟨hu, _⟩
  obtain ⟨ev', dv', rv', he', hd', hr', hu1, g1, g2, g3, hle⟩ := hu (by rw [List.length_replicate]; exact wkAc_may)
  have e1 : pageA ⟨List.replicate 16 0, wkAc.one, wkAc.two, wkAc.pk, (7 : Int).toNat, 0⟩ [wkEn] = ⟨⟨[wkEn], []⟩, 1, noFt⟩ := wkAc_page
  rw [e1] at hu1 g1 g3
  subst hu1
  obtain ⟨q1, c1, x1⟩ := g1.opened
  obtain ⟨q2, c2, x2⟩ := g2.opened
  obtain ⟨q3, c3, x3⟩ := g3.opened
  rw [List.length_map] at x1 x2 x3
  subst x1 x2 x3
  refine ops_le [] (by (refine hpLe_cnt fun a => ?_; simp only [cntB_app, cntB_cons, cntB_nil] <;> omega)) ?_
  refine run ?_
  intro F G
  refine callE (fun wc hG => num14_e 0 wc) ?_
  refine runG ?_
  exact fin1 rfl
structure AxZ where
  k : Int
  es : List EnD
  ev : Value
  dv : Value
  he : Hp
  hd : Hp
structure AxI (ds : List IvD) (z : AxZ) : Prop where
  el : z.es.length ≤ 200
  h1 : Own 88 14 z.ev z.he (z.es.map enV)
  h2 : Own 94 4 z.dv z.hd (ds.map ivV)
theorem lawAccessExact_e {w : World} {wv gv ev dv pv : Value} {ws : List Nat} {pgs : List Int} {es : List EnD} {ds : List IvD} {ps : List PkD} {one two : RtD} {fr ac : Int} (h : Ak14 w wv gv ev dv pv ws pgs es ds ps) : Fn Tryz.prog 3 [.agg #[wv, .int .i64 fr, gv, .bool one.on, .int .i64 one.frame, .int .i64 one.tag, .bool two.on, .int .i64 two.frame, .int .i64 two.tag, .int .i64 ac, ev, dv, pv]].toArray w [] (fun u _ => u = .bool true) := by
  have h' := h
  obtain ⟨q1, c1, rfl, hwc⟩ := h.wcap
  obtain ⟨q2, c2, rfl, hne2, _⟩ := h.sg.opened
  obtain ⟨q3, c3, rfl, hcl⟩ := h.cap
  obtain ⟨q4, c4, rfl, _, _⟩ := h.sd.opened
  obtain ⟨q5, c5, rfl, hne5, _⟩ := h.sp.opened
  refine enter Tryz.func3 ?_
  refine run ?_
  intro B
  refine callV (fun wc hG => heavy14_e (h'.good hG)) ?_
  rintro _ ⟨hb, rfl, hsm⟩
  refine run ?_
  refine st_cond _ rfl (fun hc => ?_) (fun hc => ?_)
  · refine run ?_
    exact fin1 rfl
  obtain ⟨hwl, hgl, hel, hpl⟩ := hsm hc
  refine run ?_
  refine callB (fun wc hG => copyTLB_e es ds _ _ ((Sees.old h.se).good hG) ((Sees.old h.sd).good hG) (by omega) (by omega)) ?_
  rintro _ hn1 ⟨v1, h1, v2, h2, rfl, hA1, hA2, hle1⟩
  replace hA1 := hA1.own
  replace hA2 := hA2.own
  obtain ⟨qa, ca, xa⟩ := hA1.opened
  obtain ⟨qb, cb, xb⟩ := hA2.opened
  rw [List.length_map] at xa xb
  subst xa xb
  refine ops_le (⟨B, #[.slice q1 ws.length c1, .int .i64 fr, .slice q2 pgs.length c2, .bool one.on, .int .i64 one.frame, .int .i64 one.tag, .bool two.on, .int .i64 two.frame, .int .i64 two.tag, .int .i64 ac, .slice q3 es.length c3, .slice q4 ds.length c4, .slice q5 ps.length c5], 38⟩ :: (h1 ++ h2)) (by (refine hpLe_cnt fun a => ?_; have := HpLe.cnt hle1 a; simp only [cntB_app, cntB_cons, cntB_nil] at *; omega)) ?_
  refine run ?_
  intro T
  refine run ?_
  refine loopS (σ := AxZ) (fun z => [(4, .int .i64 z.k)]) (fun z => ⟨T, #[z.ev, z.dv], 35⟩ :: ⟨B, #[.slice q1 ws.length c1, .int .i64 fr, .slice q2 pgs.length c2, .bool one.on, .int .i64 one.frame, .int .i64 one.tag, .bool two.on, .int .i64 two.frame, .int .i64 two.tag, .int .i64 ac, .slice q3 es.length c3, .slice q4 ds.length c4, .slice q5 ps.length c5], 38⟩ :: (z.he ++ z.hd)) (fun z => 0 ≤ z.k ∧ z.k ≤ 8 ∧ AxI ds z) (fun z => 8 - z.k.toNat) ⟨0, es, .slice qa es.length ca, .slice qb ds.length cb, h1, h2⟩ ⟨Int.le_refl _, show (0 : Int) ≤ 8 by decide, by dsimp only; omega, hA1, hA2⟩ ?_
  rintro ⟨k, E, ev, dv, he, hd⟩ m hm ⟨hk0, hk8, hEl, hO1, hO2⟩
  dsimp only at hm hk0 hk8 hEl hO1 hO2 ⊢
  obtain ⟨K, rfl⟩ : ∃ K : Nat, k = (K : Int) := ⟨k.toNat, by omega⟩
  refine runG ?_
  refine st_cond _ rfl (fun hc1 => ?_) (fun hc1 => ?_)
  · have hlt : K < pgs.length ∧ K < ps.length ∧ K < 8 := by simp at hc1; omega
    obtain ⟨b2, o2, rfl⟩ := hne2 (by intro e; rw [e] at hlt; simp at hlt)
    obtain ⟨b5, o5, rfl⟩ := hne5 (by intro e; rw [e] at hlt; simp at hlt)
    have hr2 := rangeAt_cell0 (h.sg.row hlt.1)
    have hr5 := h.sp.row hlt.2.1
    simp only [Nat.mul_one] at hr2
    generalize pgs.getD K default = page at hr2
    generalize ps.getD K default = pk at hr5
    refine run ?_
    refine drawEC 15 14 [0, 1, 2, 3, 4, 5, 6, 7, 8, 9, 10, 11, 13] [12] [14] (⟨T, #[ev, dv], 35⟩ :: ⟨B, #[.slice q1 ws.length c1, .int .i64 fr, .slice (some ⟨b2, o2, none⟩) pgs.length c2, .bool one.on, .int .i64 one.frame, .int .i64 one.tag, .bool two.on, .int .i64 two.frame, .int .i64 two.tag, .int .i64 ac, .slice q3 es.length c3, .slice q4 ds.length c4, .slice (some ⟨b5, o5, none⟩) ps.length c5], 38⟩ :: (he ++ hd)) ?_
    refine runZ ?_
    refine eAlloc ?_
    refine eNil ?_
    rintro _ _ ⟨X, rfl, rfl⟩
    simp only [DN, List.cons_append, List.nil_append, List.append_nil]
    refine cStore (b := X) (tb := 42) (cs := #[.int .i64 0, .bool false, .bool false, .bool false, .int .i64 0, .bool false]) (cs' := #[.int .i64 pk.cpu, .bool pk.fill, .bool pk.mids, .bool pk.walk, .int .i64 pk.drop, .bool pk.use]) (hp' := ⟨T, #[ev, dv], 35⟩ :: ⟨B, #[.slice q1 ws.length c1, .int .i64 fr, .slice (some ⟨b2, o2, none⟩) pgs.length c2, .bool one.on, .int .i64 one.frame, .int .i64 one.tag, .bool two.on, .int .i64 two.frame, .int .i64 two.tag, .int .i64 ac, .slice q3 es.length c3, .slice q4 ds.length c4, .slice (some ⟨b5, o5, none⟩) ps.length c5], 38⟩ :: (he ++ hd)) ?_ (by (refine perm_cnt fun a => ?_; simp only [cntB_app, cntB_cons, cntB_nil] <;> omega))
    refine dc_nil ?_
    refine opsC ?_
    refine run ?_
    refine loopS (σ := AxZ) (fun z => [(7, .int .i64 z.k)]) (fun z => ⟨X, #[.int .i64 pk.cpu, .bool pk.fill, .bool pk.mids, .bool pk.walk, .int .i64 pk.drop, .bool pk.use], 42⟩ :: ⟨T, #[z.ev, z.dv], 35⟩ :: ⟨B, #[.slice q1 ws.length c1, .int .i64 fr, .slice (some ⟨b2, o2, none⟩) pgs.length c2, .bool one.on, .int .i64 one.frame, .int .i64 one.tag, .bool two.on, .int .i64 two.frame, .int .i64 two.tag, .int .i64 ac, .slice q3 es.length c3, .slice q4 ds.length c4, .slice (some ⟨b5, o5, none⟩) ps.length c5], 38⟩ :: (z.he ++ z.hd)) (fun z => -1 ≤ z.k ∧ z.k ≤ 4 ∧ AxI ds z) (fun z => (5 - z.k).toNat) ⟨-1, E, ev, dv, he, hd⟩ ⟨Int.le_refl _, show (-1 : Int) ≤ 4 by decide, hEl, hO1, hO2⟩ ?_
    clear hO1 hO2 hEl
    rintro ⟨acc, E, ev, dv, he, hd⟩ m2 hm2 ⟨ha0, ha4, hEl, hO1, hO2⟩
    dsimp only at hm2 ha0 ha4 hEl hO1 hO2 ⊢
    obtain ⟨qa, ca, xa⟩ := hO1.opened
    obtain ⟨qb, cb, xb⟩ := hO2.opened
    rw [List.length_map] at xa xb
    subst xa xb
    refine run ?_
    refine st_cond _ rfl (fun hc2 => ?_) (fun hc2 => ?_)
    · refine run ?_
      refine callB (fun wc hG => copyTLB_e E ds _ _ (hO1.lie (fun b hb => hG.here b (by simp [hb])) (by rw [List.length_map]; omega)) (hO2.lie (fun b hb => hG.here b (by simp [hb])) (by rw [List.length_map]; omega)) (by omega) (by omega)) ?_
      rintro _ hn2 ⟨v3, h3, v4, h4, rfl, hB1, hB2, hle2⟩
      replace hB1 := hB1.own
      replace hB2 := hB2.own
      obtain ⟨qc, cc, xc⟩ := hB1.opened
      obtain ⟨qd, cd, xd⟩ := hB2.opened
      rw [List.length_map] at xc xd
      subst xc xd
      refine ops_le (⟨X, #[.int .i64 pk.cpu, .bool pk.fill, .bool pk.mids, .bool pk.walk, .int .i64 pk.drop, .bool pk.use], 42⟩ :: ⟨T, #[.slice qa E.length ca, .slice qb ds.length cb], 35⟩ :: ⟨B, #[.slice q1 ws.length c1, .int .i64 fr, .slice (some ⟨b2, o2, none⟩) pgs.length c2, .bool one.on, .int .i64 one.frame, .int .i64 one.tag, .bool two.on, .int .i64 two.frame, .int .i64 two.tag, .int .i64 ac, .slice q3 es.length c3, .slice q4 ds.length c4, .slice (some ⟨b5, o5, none⟩) ps.length c5], 38⟩ :: ((he ++ hd) ++ (h3 ++ h4))) (by (refine hpLe_cnt fun a => ?_; have := HpLe.cnt hle2 a; simp only [cntB_app, cntB_cons, cntB_nil] at *; omega)) ?_
      refine run ?_
      intro I
      refine callB (fun wc hG => aPage_e ws h.w64 (by omega) c1 hwc E ds pk one two page acc ((Sees.old h.sw).good hG) (hB1.lie (fun b hb => hG.here b (by simp [hb])) (by rw [List.length_map]; omega)) (hB2.lie (fun b hb => hG.here b (by simp [hb])) (by rw [List.length_map]; omega)) hB1.cap (by omega) (by omega)) ?_
      rintro u hn3 ⟨hu1, hu2⟩
      cases hmy : mayL ws.length E ds one two page acc with
      | false =>
        obtain rfl := hu2 hmy
        refine ops_le (⟨I, #[.slice qc E.length cc, .slice qd ds.length cd], 35⟩ :: ⟨X, #[.int .i64 pk.cpu, .bool pk.fill, .bool pk.mids, .bool pk.walk, .int .i64 pk.drop, .bool pk.use], 42⟩ :: ⟨T, #[.slice qa E.length ca, .slice qb ds.length cb], 35⟩ :: ⟨B, #[.slice q1 ws.length c1, .int .i64 fr, .slice (some ⟨b2, o2, none⟩) pgs.length c2, .bool one.on, .int .i64 one.frame, .int .i64 one.tag, .bool two.on, .int .i64 two.frame, .int .i64 two.tag, .int .i64 ac, .slice q3 es.length c3, .slice q4 ds.length c4, .slice (some ⟨b5, o5, none⟩) ps.length c5], 38⟩ :: ((he ++ hd) ++ (h3 ++ h4))) (by (refine hpLe_cnt fun a => ?_; simp only [cntB_app, cntB_cons, cntB_nil] <;> omega)) ?_
        refine run ?_
        intro D1 D2
        refine callE (fun wc hG => may14_e E ds ws one two page acc ((Sees.old h.sw).good hG) (by omega) (hO1.lie (fun b hb => hG.here b (by simp [hb])) (by rw [List.length_map]; omega)) (hO2.lie (fun b hb => hG.here b (by simp [hb])) (by rw [List.length_map]; omega))) ?_
        rw [hmy]
        refine runC ?_
        refine callE (fun wc hG => num14_e 1 wc) ?_
        refine runG ?_
        refine st_cond _ rfl (fun hc => absurd hc (by decide)) (fun hc => ?_)
        refine run ?_
        exact nextS (⟨acc + 1, E, .slice qa E.length ca, .slice qb ds.length cb, he, hd⟩ : AxZ) ⟨by dsimp only; omega, by dsimp only; simp at hc2; omega, hEl, hO1, hO2⟩ (hm := by dsimp only; simp at hc2; omega) (h2 := by (refine hpLe_cnt fun a => ?_; simp only [cntB_app, cntB_cons, cntB_nil] <;> omega))
      | true =>
        obtain ⟨ev5, dv5, rv5, he5, hd5, hr5', rfl, g1, g2, g3, hle5⟩ := hu1 hmy
        obtain ⟨Rz, hX⟩ : ∃ Rz, Rz = pageA ⟨ws, one, two, pk, page.toNat, acc⟩ E := ⟨_, rfl⟩
        rw [← hX] at g1 g3 ⊢
        obtain ⟨qe, ce, xe⟩ := g1.opened
        obtain ⟨qf, cf, xf⟩ := g2.opened
        obtain ⟨qg, cg, xg⟩ := g3.opened
        rw [List.length_map] at xe xf xg
        subst xe xf xg
        refine ops_le (⟨I, #[.slice qc E.length cc, .slice qd ds.length cd], 35⟩ :: ⟨X, #[.int .i64 pk.cpu, .bool pk.fill, .bool pk.mids, .bool pk.walk, .int .i64 pk.drop, .bool pk.use], 42⟩ :: ⟨T, #[.slice qa E.length ca, .slice qb ds.length cb], 35⟩ :: ⟨B, #[.slice q1 ws.length c1, .int .i64 fr, .slice (some ⟨b2, o2, none⟩) pgs.length c2, .bool one.on, .int .i64 one.frame, .int .i64 one.tag, .bool two.on, .int .i64 two.frame, .int .i64 two.tag, .int .i64 ac, .slice q3 es.length c3, .slice q4 ds.length c4, .slice (some ⟨b5, o5, none⟩) ps.length c5], 38⟩ :: ((he ++ hd) ++ (h3 ++ h4) ++ (he5 ++ hd5 ++ hr5'))) (by (refine hpLe_cnt fun a => ?_; have := HpLe.cnt hle5 a; simp only [cntB_app, cntB_cons, cntB_nil] at *; omega)) ?_
        refine run ?_
        intro D1 D2
        refine callE (fun wc hG => may14_e E ds ws one two page acc ((Sees.old h.sw).good hG) (by omega) (hO1.lie (fun b hb => hG.here b (by simp [hb])) (by rw [List.length_map]; omega)) (hO2.lie (fun b hb => hG.here b (by simp [hb])) (by rw [List.length_map]; omega))) ?_
        rw [hmy]
        obtain ⟨hk, hE, hac⟩ := mayL_ok (c := ⟨ws, one, two, pk, page.toNat, acc⟩) (es := E) (ds := ds) h.w64 (by
          have hpg : PtD.btw page 0 4095 = true := by
            simp only [mayL, Bool.and_eq_true] at hmy
            exact hmy.1.1.2
          simp only [PtD.btw, Bool.and_eq_true, decide_eq_true_eq] at hpg
          dsimp only
          rw [Int.toNat_of_nonneg hpg.1]
          exact hmy)
        have hpg : 0 ≤ page := by
          have hpg : PtD.btw page 0 4095 = true := by
            simp only [mayL, Bool.and_eq_true] at hmy
            exact hmy.1.1.2
          simp only [PtD.btw, Bool.and_eq_true, decide_eq_true_eq] at hpg
          exact hpg.1
        have hXok := pageA_ok hk hE
        rw [← hX] at hXok
        have hR := fun {wc : World} (a1 : SlAt wc (.slice q1 ws.length c1) 1 (ws.map uV)) (a2 : SlAt wc (.slice qa E.length ca) 14 (E.map enV)) (a3 : SlAt wc (.slice qb ds.length cb) 4 (ds.map ivV)) => rPage14_e ⟨ws, one, two, pk, page.toNat, acc⟩ hk E ds hE a1 a2 hO1.cap a3
        simp only [← hX, Int.toNat_of_nonneg hpg] at hR
        refine runC ?_
        refine callB (fun wc hG => hR ((Sees.old h.sw).good hG) (hO1.lie (fun b hb => hG.here b (by simp [hb])) (by rw [List.length_map]; omega)) (hO2.lie (fun b hb => hG.here b (by simp [hb])) (by rw [List.length_map]; omega))) ?_
        rintro _ hn6 ⟨R2, hR2, ev6, dv6, rv6, he6, hd6, hr6, rfl, k1, k2, k3, hle6⟩
        obtain ⟨qh, ch, xh⟩ := k1.opened
        obtain ⟨qi, ci, xi⟩ := k2.opened
        obtain ⟨qj, cj, xj⟩ := k3.opened
        rw [List.length_map] at xh xi xj
        subst xh xi xj
        refine ops_le (⟨D2, #[.slice qe Rz.s.es.length ce, .slice qf ds.length cf], 35⟩ :: ⟨D1, #[.int .i64 Rz.f.kind, .int .i64 Rz.f.stage, .int .i64 Rz.f.level, .bool Rz.f.walk, .int .i64 Rz.f.page], 44⟩ :: ⟨I, #[.slice qc E.length cc, .slice qd ds.length cd], 35⟩ :: ⟨X, #[.int .i64 pk.cpu, .bool pk.fill, .bool pk.mids, .bool pk.walk, .int .i64 pk.drop, .bool pk.use], 42⟩ :: ⟨T, #[.slice qa E.length ca, .slice qb ds.length cb], 35⟩ :: ⟨B, #[.slice q1 ws.length c1, .int .i64 fr, .slice (some ⟨b2, o2, none⟩) pgs.length c2, .bool one.on, .int .i64 one.frame, .int .i64 one.tag, .bool two.on, .int .i64 two.frame, .int .i64 two.tag, .int .i64 ac, .slice q3 es.length c3, .slice q4 ds.length c4, .slice (some ⟨b5, o5, none⟩) ps.length c5], 38⟩ :: (((he ++ hd) ++ (h3 ++ h4) ++ (he5 ++ hd5 ++ hr5')) ++ (he6 ++ hd6 ++ hr6))) (by (refine hpLe_cnt fun a => ?_; have := HpLe.cnt hle6 a; simp only [cntB_app, cntB_cons, cntB_nil] at *; omega)) ?_
        refine runC ?_
        intro D3 D4
        have hRe : Rz.s.es.length ≤ 8 := hXok.es.may.2.1
        have hRr : Rz.s.rd.length ≤ 24 := by have := hXok.rd; simpa using this
        have hRe2 : R2.s.es.length ≤ 8 := by rw [hR2]; exact hRe
        have hRr2 : R2.s.rd.length ≤ 24 := by rw [hR2]; exact hRr
        obtain ⟨Z, hZ⟩ : ∃ Z : Int, Z = 0 := ⟨0, rfl⟩
        refine callE (v := .int .i64 Z) (fun wc hG => by rw [hZ]; exact num14_e 0 wc) ?_
        refine runG ?_
        refine callEG (fun _ wc hG => eqTLB_e ⟨Rz.s.es, ds, qe, ce, qf, cf⟩ ⟨R2.s.es, ds, qh, ch, qi, ci⟩ (by rw [hR2]) rfl (g1.lie (fun b hb => hG.here b (by simp [hb])) (by rw [List.length_map]; omega)) (g2.lie (fun b hb => hG.here b (by simp [hb])) (by rw [List.length_map]; omega)) (k1.lie (fun b hb => hG.here b (by simp [hb])) (by rw [List.length_map]; omega)) (k2.lie (fun b hb => hG.here b (by simp [hb])) (by rw [List.length_map]; omega))) ?_
        refine runG ?_
        refine callEG (fun _ wc hG => eqNumbers_e Rz.s.rd _ _ (g3.lie (fun b hb => hG.here b (by simp [hb])) (by rw [List.length_map]; omega)) (by have := k3.lie (w := wc) (fun b hb => hG.here b (by simp [hb])) (by rw [List.length_map]; omega); rwa [show R2.s.rd.map inV = Rz.s.rd.map inV by rw [hR2]] at this)) ?_
        refine runG ?_
        refine callEG (fun _ wc hG => eqTLB_e ⟨E, ds, qc, cc, qd, cd⟩ ⟨E, ds, qa, ca, qb, cb⟩ rfl rfl (hB1.lie (fun b hb => hG.here b (by simp [hb])) (by rw [List.length_map]; omega)) (hB2.lie (fun b hb => hG.here b (by simp [hb])) (by rw [List.length_map]; omega)) (hO1.lie (fun b hb => hG.here b (by simp [hb])) (by rw [List.length_map]; omega)) (hO2.lie (fun b hb => hG.here b (by simp [hb])) (by rw [List.length_map]; omega))) ?_
        refine runG ?_
        refine st_cond _ rfl (fun hc3 => ?_) (fun hc3 => ?_)
        · exfalso
          subst hR2 hZ
          simp [eqLeaves, eqLeaf] at hc3
        clear hc3
        refine run ?_
        refine callM (he5 ++ hd5) (⟨D4, #[.slice qh R2.s.es.length ch, .slice qi ds.length ci], 35⟩ :: ⟨D3, #[.int .i64 R2.f.kind, .int .i64 R2.f.stage, .int .i64 R2.f.level, .bool R2.f.walk, .int .i64 R2.f.page], 44⟩ :: ⟨D2, #[.slice qe Rz.s.es.length ce, .slice qf ds.length cf], 35⟩ :: ⟨D1, #[.int .i64 Rz.f.kind, .int .i64 Rz.f.stage, .int .i64 Rz.f.level, .bool Rz.f.walk, .int .i64 Rz.f.page], 44⟩ :: ⟨I, #[.slice qc E.length cc, .slice qd ds.length cd], 35⟩ :: ⟨X, #[.int .i64 pk.cpu, .bool pk.fill, .bool pk.mids, .bool pk.walk, .int .i64 pk.drop, .bool pk.use], 42⟩ :: ⟨T, #[.slice qa E.length ca, .slice qb ds.length cb], 35⟩ :: ⟨B, #[.slice q1 ws.length c1, .int .i64 fr, .slice (some ⟨b2, o2, none⟩) pgs.length c2, .bool one.on, .int .i64 one.frame, .int .i64 one.tag, .bool two.on, .int .i64 two.frame, .int .i64 two.tag, .int .i64 ac, .slice q3 es.length c3, .slice q4 ds.length c4, .slice (some ⟨b5, o5, none⟩) ps.length c5], 38⟩ :: (((he ++ hd) ++ (h3 ++ h4) ++ hr5') ++ (he6 ++ hd6 ++ hr6))) (fun wc hG => spoilTLB_e Rz.s.es ds g1 g2 hG.hereN (by omega) (by omega)) (fun v hn hR => ?_) (by (refine perm_cnt fun a => ?_; simp only [cntB_app, cntB_cons, cntB_nil] <;> omega))
        obtain rfl := hR
        refine ops_le (⟨D4, #[.slice qh R2.s.es.length ch, .slice qi ds.length ci], 35⟩ :: ⟨I, #[.slice qc E.length cc, .slice qd ds.length cd], 35⟩ :: ⟨X, #[.int .i64 pk.cpu, .bool pk.fill, .bool pk.mids, .bool pk.walk, .int .i64 pk.drop, .bool pk.use], 42⟩ :: ⟨T, #[.slice qa E.length ca, .slice qb ds.length cb], 35⟩ :: ⟨B, #[.slice q1 ws.length c1, .int .i64 fr, .slice (some ⟨b2, o2, none⟩) pgs.length c2, .bool one.on, .int .i64 one.frame, .int .i64 one.tag, .bool two.on, .int .i64 two.frame, .int .i64 two.tag, .int .i64 ac, .slice q3 es.length c3, .slice q4 ds.length c4, .slice (some ⟨b5, o5, none⟩) ps.length c5], 38⟩ :: (((he ++ hd) ++ (h3 ++ h4)) ++ (he6 ++ hd6))) (by (refine hpLe_cnt fun a => ?_; simp only [cntB_app, cntB_cons, cntB_nil] <;> omega)) ?_
        refine run ?_
        refine callE (fun wc hG => eqTLB_e ⟨E, ds, qc, cc, qd, cd⟩ ⟨E, ds, qa, ca, qb, cb⟩ rfl rfl (hB1.lie (fun b hb => hG.here b (by simp [hb])) (by rw [List.length_map]; omega)) (hB2.lie (fun b hb => hG.here b (by simp [hb])) (by rw [List.length_map]; omega)) (hO1.lie (fun b hb => hG.here b (by simp [hb])) (by rw [List.length_map]; omega)) (hO2.lie (fun b hb => hG.here b (by simp [hb])) (by rw [List.length_map]; omega))) ?_
        refine runC ?_
        refine callB (fun wc hG => copyTLB_e R2.s.es ds _ _ (k1.lie (fun b hb => hG.here b (by simp [hb])) (by rw [List.length_map]; omega)) (k2.lie (fun b hb => hG.here b (by simp [hb])) (by rw [List.length_map]; omega)) (by omega) (by omega)) ?_
        rintro _ hn7 ⟨v7, h7, v8, h8, rfl, hC1, hC2, hle7⟩
        replace hC1 := hC1.own
        replace hC2 := hC2.own
        obtain ⟨qk, ck, xk⟩ := hC1.opened
        obtain ⟨ql, cl, xl⟩ := hC2.opened
        rw [List.length_map] at xk xl
        subst xk xl
        refine ops_le (⟨X, #[.int .i64 pk.cpu, .bool pk.fill, .bool pk.mids, .bool pk.walk, .int .i64 pk.drop, .bool pk.use], 42⟩ :: ⟨T, #[.slice qa E.length ca, .slice qb ds.length cb], 35⟩ :: ⟨B, #[.slice q1 ws.length c1, .int .i64 fr, .slice (some ⟨b2, o2, none⟩) pgs.length c2, .bool one.on, .int .i64 one.frame, .int .i64 one.tag, .bool two.on, .int .i64 two.frame, .int .i64 two.tag, .int .i64 ac, .slice q3 es.length c3, .slice q4 ds.length c4, .slice (some ⟨b5, o5, none⟩) ps.length c5], 38⟩ :: (h7 ++ h8)) (by (refine hpLe_cnt fun a => ?_; have := HpLe.cnt hle7 a; simp only [cntB_app, cntB_cons, cntB_nil] at *; omega)) ?_
        refine run ?_
        exact nextS (⟨acc + 1, R2.s.es, .slice qk R2.s.es.length ck, .slice ql ds.length cl, h7, h8⟩ : AxZ) ⟨by dsimp only; omega, by dsimp only; simp at hc2; omega, by dsimp only; omega, hC1, hC2⟩ (hm := by dsimp only; simp at hc2; omega) (h2 := by (refine hpLe_cnt fun a => ?_; simp only [cntB_app, cntB_cons, cntB_nil] <;> omega))
    refine run ?_
    exact nextS (⟨((K + 1 : Nat) : Int), E, .slice qa E.length ca, .slice qb ds.length cb, he, hd⟩ : AxZ) ⟨by dsimp only; omega, by dsimp only; omega, hEl, hO1, hO2⟩ (hm := by dsimp only; omega) (h2 := by (refine hpLe_cnt fun a => ?_; simp only [cntB_app, cntB_cons, cntB_nil] <;> omega))
  refine run ?_
  refine callE (fun wc hG => wakes14_e wc) ?_
  refine run ?_
  exact fin1 rfl
end Go.Proofs.YtdaenalnmdmflaaGreat
namespace Go.Proofs.YtdaenalnmdmflaaGreat
open Go.ChangeShapes Go.WideShapes Go.ChangeAt Go.RowKit
set_option linter.unusedVariables false
set_option linter.unusedSimpArgs false
set_option maxRecDepth 20000
theorem okW_u {v : Value} (h : okW (.i .u64) v = true) : ∃ a : Nat, v = .int .u64 (a : Int) ∧ a < 18446744073709551616 := by
  cases v <;> simp only [okW, Bool.and_eq_true, decide_eq_true_eq, Bool.false_eq_true] at h
  obtain ⟨rfl, h⟩ := h
  rename_i n
  simp only [Lit.wf, Bool.and_eq_true, decide_eq_true_eq] at h
  have h0 : 0 ≤ n := Int.le_trans (by decide) h.1
  have h1 : n ≤ 18446744073709551615 := Int.le_trans h.2 (by decide)
  exact ⟨n.toNat, by rw [Int.toNat_of_nonneg h0], by omega⟩
theorem entry_of {cs : List Value} (h : okLvW [.i .i64, .i .i64, .i .i64, .b, .i .i64, .i .i64, .i .i64, .i .i64, .b, .b, .b, .b, .b, .i .i64] cs = true) : ∃ e : EnD, cs = enV e ∧ True := by
  obtain ⟨_, _, rfl, h0, r0⟩ := okLvW_cons h
  obtain ⟨_, _, rfl, h1, r1⟩ := okLvW_cons r0
  obtain ⟨_, _, rfl, h2, r2⟩ := okLvW_cons r1
  obtain ⟨_, _, rfl, h3, r3⟩ := okLvW_cons r2
  obtain ⟨_, _, rfl, h4, r4⟩ := okLvW_cons r3
  obtain ⟨_, _, rfl, h5, r5⟩ := okLvW_cons r4
  obtain ⟨_, _, rfl, h6, r6⟩ := okLvW_cons r5
  obtain ⟨_, _, rfl, h7, r7⟩ := okLvW_cons r6
  obtain ⟨_, _, rfl, h8, r8⟩ := okLvW_cons r7
  obtain ⟨_, _, rfl, h9, r9⟩ := okLvW_cons r8
  obtain ⟨_, _, rfl, h10, r10⟩ := okLvW_cons r9
  obtain ⟨_, _, rfl, h11, r11⟩ := okLvW_cons r10
  obtain ⟨_, _, rfl, h12, r12⟩ := okLvW_cons r11
  obtain ⟨_, _, rfl, h13, r13⟩ := okLvW_cons r12
  obtain ⟨a0, rfl, _⟩ := okW_i h0
  obtain ⟨a1, rfl, _⟩ := okW_i h1
  obtain ⟨a2, rfl, _⟩ := okW_i h2
  obtain ⟨a3, rfl⟩ := okW_b h3
  obtain ⟨a4, rfl, _⟩ := okW_i h4
  obtain ⟨a5, rfl, _⟩ := okW_i h5
  obtain ⟨a6, rfl, _⟩ := okW_i h6
  obtain ⟨a7, rfl, _⟩ := okW_i h7
  obtain ⟨a8, rfl⟩ := okW_b h8
  obtain ⟨a9, rfl⟩ := okW_b h9
  obtain ⟨a10, rfl⟩ := okW_b h10
  obtain ⟨a11, rfl⟩ := okW_b h11
  obtain ⟨a12, rfl⟩ := okW_b h12
  obtain ⟨a13, rfl, _⟩ := okW_i h13
  obtain rfl := okLvW_nil r13
  exact ⟨⟨a0, a1, a2, a3, a4, a5, a6, a7, a8, a9, a10, a11, a12, a13⟩, rfl, trivial⟩
theorem inval_of {cs : List Value} (h : okLvW [.i .i64, .i .i64, .i .i64, .i .i64] cs = true) : ∃ e : IvD, cs = ivV e ∧ True := by
  obtain ⟨_, _, rfl, h0, r0⟩ := okLvW_cons h
  obtain ⟨_, _, rfl, h1, r1⟩ := okLvW_cons r0
  obtain ⟨_, _, rfl, h2, r2⟩ := okLvW_cons r1
  obtain ⟨_, _, rfl, h3, r3⟩ := okLvW_cons r2
  obtain ⟨a0, rfl, _⟩ := okW_i h0
  obtain ⟨a1, rfl, _⟩ := okW_i h1
  obtain ⟨a2, rfl, _⟩ := okW_i h2
  obtain ⟨a3, rfl, _⟩ := okW_i h3
  obtain rfl := okLvW_nil r3
  exact ⟨⟨a0, a1, a2, a3⟩, rfl, trivial⟩
def RgD.Ok (r : RgD) : Prop := r.x0 < 18446744073709551616 ∧ r.x1 < 18446744073709551616 ∧ r.x2 < 18446744073709551616 ∧ r.x3 < 18446744073709551616 ∧ r.x4 < 18446744073709551616 ∧ r.x5 < 18446744073709551616 ∧ r.x6 < 18446744073709551616 ∧ r.x7 < 18446744073709551616 ∧ r.pc < 18446744073709551616 ∧ r.ttbr < 18446744073709551616 ∧ r.sctlr < 18446744073709551616 ∧ r.vbar < 18446744073709551616 ∧ r.elr < 18446744073709551616 ∧ r.esr < 18446744073709551616 ∧ r.far < 18446744073709551616
section
variable {H : Type} {enc : TypeId × Value → H} {w : World} {base : Nat} {spare : Nat → Bool} {held : Bool}
theorem open_words {fuel : Nat} {cs : List Value} {x : DataW H × List MemPlace} (h : DataW.trod enc Tryz.prog w base spare held fuel 22 cs = some x) (hz : Szd Tryz.prog 22 x.1) : ∃ v, ∃ xs : List Nat, cs = [v] ∧ SlAt w v 1 (xs.map uV) ∧ (∀ a ∈ xs, a < 18446744073709551616) ∧ xs.length ≤ reachBytes :=
  open_flatL (ks := [.i .u64]) Tryz.underlying22 (by kernel_rfl) (by kernel_rfl) (by decide) (by kernel_rfl) (fun cs h => by
    obtain ⟨_, _, rfl, h1, h⟩ := okLvW_cons h
    obtain rfl := okLvW_nil h
    obtain ⟨a, rfl, ha⟩ := okW_u h1
    exact ⟨a, rfl, ha⟩) h hz
theorem open_intsL {fuel : Nat} {cs : List Value} {x : DataW H × List MemPlace} (h : DataW.trod enc Tryz.prog w base spare held fuel 25 cs = some x) (hz : Szd Tryz.prog 25 x.1) : ∃ v, ∃ xs : List Int, cs = [v] ∧ SlAt w v 1 (xs.map inV) ∧ (∀ a ∈ xs, I64 a) ∧ xs.length ≤ reachBytes :=
  open_flatL (ks := [.i .i64]) Tryz.underlying25 (by kernel_rfl) (by kernel_rfl) (by decide) (by kernel_rfl) (fun cs h => by
    obtain ⟨_, _, rfl, h1, h⟩ := okLvW_cons h
    obtain rfl := okLvW_nil h
    obtain ⟨a, rfl, ha⟩ := okW_i h1
    exact ⟨a, rfl, ha⟩) h hz
theorem trod_cap {fuel : Nat} {t e : TypeId} {p : Option Addr} {n c : Nat} {x : DataW H × List MemPlace} (ht : Tryz.prog.underlying t = some (.slice e)) (h : DataW.trod enc Tryz.prog w base spare held fuel t [.slice p n c] = some x) : n ≤ c := by
  rcases Go.Deep.open_slice ht h with ⟨hc, _⟩ | ⟨a, len, cap, m, k, D, Pl, hc, hb, hl, hm, hmm, hxx, hx⟩
  · injection hc with hc
    injection hc with _ h1 h2
    omega
  · injection hc with hc
    injection hc with _ h1 h2
    omega
theorem open_entries {fuel : Nat} {cs : List Value} {x : DataW H × List MemPlace} (h : DataW.trod enc Tryz.prog w base spare held fuel 32 cs = some x) (hz : Szd Tryz.prog 32 x.1) : ∃ v, ∃ xs : List EnD, cs = [v] ∧ SlAt w v 14 (xs.map enV) ∧ (∀ a ∈ xs, True) ∧ xs.length ≤ reachBytes :=
  open_flatL (f := enV) (q := fun _ => True) (ks := [.i .i64, .i .i64, .i .i64, .b, .i .i64, .i .i64, .i .i64, .i .i64, .b, .b, .b, .b, .b, .i .i64]) Tryz.underlying32 (by kernel_rfl) (tb_ok.gsz (t := 88) (s := 14) rfl) (by decide) (by kernel_rfl) (fun cs hc => entry_of hc) h hz
theorem open_invals {fuel : Nat} {cs : List Value} {x : DataW H × List MemPlace} (h : DataW.trod enc Tryz.prog w base spare held fuel 33 cs = some x) (hz : Szd Tryz.prog 33 x.1) : ∃ v, ∃ xs : List IvD, cs = [v] ∧ SlAt w v 4 (xs.map ivV) ∧ (∀ a ∈ xs, True) ∧ xs.length ≤ reachBytes :=
  open_flatL (f := ivV) (q := fun _ => True) (ks := [.i .i64, .i .i64, .i .i64, .i .i64]) Tryz.underlying33 (by kernel_rfl) (tb_ok.gsz (t := 94) (s := 4) rfl) (by decide) (by kernel_rfl) (fun cs hc => inval_of hc) h hz
theorem open_tlb {fuel : Nat} {cs : List Value} {x : DataW H × List MemPlace} (h : DataW.trod enc Tryz.prog w base spare held fuel 35 cs = some x) (hz : Szd Tryz.prog 35 x.1) : ∃ t : TlD, cs = tlV t ∧ (SlAt w t.ev 14 (t.es.map enV) ∧ SlAt w t.dv 4 (t.ds.map ivV) ∧ t.es.length ≤ t.ec ∧ t.es.length ≤ reachBytes ∧ t.ds.length ≤ reachBytes) := by
  obtain ⟨hl, n, hf⟩ := trod_fields Tryz.underlying35 h hz
  rw [cellsOf_sz (show szOf Tryz.prog 35 = some 2 from tb_ok.gsz rfl)] at hl
  match cs, hl with
  | [c0, c1], _ =>
    have c1s : Tryz.prog.cellsOf 32 = 1 := by kernel_rfl
    have c2s : Tryz.prog.cellsOf 33 = 1 := by kernel_rfl
    obtain ⟨_, h0, z0⟩ := hf 0 _ rfl
    obtain ⟨_, h1, z1⟩ := hf 1 _ rfl
    simp only [List.getElem_toArray, List.getElem_cons_zero, List.getElem_cons_succ, c1s, c2s, List.drop_zero, List.drop_succ_cons, List.take_succ_cons, List.take_zero] at h0 h1 z0 z1
    obtain ⟨v0, es, e0, s0, _, l0⟩ := open_entries h0 z0
    obtain ⟨v1, ds, e1, s1, _, l1⟩ := open_invals h1 z1
    cases e0; cases e1
    obtain ⟨p0, k0, rfl, _, _⟩ := s0.opened
    obtain ⟨p1, k1, rfl, _, _⟩ := s1.opened
    exact ⟨⟨es, ds, p0, k0, p1, k1⟩, rfl, s0, s1, trod_cap Tryz.underlying32 h0, l0, l1⟩
end
end Go.Proofs.YtdaenalnmdmflaaGreat
namespace Go.Proofs.YtdaenalnmdmflaaGreat
open Go.RowKit
set_option linter.unusedVariables false
set_option linter.unusedSimpArgs false
set_option maxRecDepth 20000
attribute [local irreducible] Hy St Ops DH DHF DE1 DE2 DE3 DS DCh DWF
theorem runB14 {G R : Prop} (k : R) (h : RestP R → G := by (intro kLeft; (repeat (first | (with_reducible apply st_seq) | (with_reducible apply st_region) | (with_reducible apply nx_normal) | (with_reducible apply nx_ret) | (with_reducible apply nx_exit) | (with_reducible apply np_normal) | (with_reducible apply inb_normal) | (with_reducible apply inb_ret) | (with_reducible apply inb_here) | (with_reducible apply ops_nil) | (with_reducible apply st_ret) | (with_reducible apply st_skip) | (with_reducible apply st_exit) | ((with_reducible apply inb_past); rfl) | ((with_reducible apply op1); rfl; (first | ((with_reducible apply x_move); rfl) | ((with_reducible apply x_assign); rfl) | ((with_reducible apply x_field tb_ok); rfl; rfl; rfl; (first | ((simp only [Nat.reduceAdd, Nat.reduceMul, Nat.zero_add, Nat.add_zero, Nat.mul_one, Nat.zero_mul, Int.toNat_zero, Int.toNat_one, Int.reduceToNat]) <;> rfl) | rfl)) | ((with_reducible apply x_load tb_ok); rfl; rfl; (first | (with_reducible apply mh) | (focus ((repeat (first | (with_reducible apply mh) | (with_reducible apply mt) | (with_reducible apply List.mem_append_right))); done))); (first | rfl | assumption)) | ((with_reducible apply x_load0 tb_ok); rfl; rfl; assumption; (first | exact List.not_mem_nil | assumption)) | ((with_reducible apply x_loadA tb_ok); rfl; rfl; rfl; (first | (with_reducible apply mh) | (focus ((repeat (first | (with_reducible apply mh) | (with_reducible apply mt) | (with_reducible apply List.mem_append_right))); done))); (first | assumption | (first | ((simp only [putAt, List.toList_toArray, List.setIfInBounds_toArray, List.set_cons_zero, List.set_cons_succ, List.drop_succ_cons, List.drop_zero, List.take_succ_cons, List.take_zero, List.cons_append, List.nil_append, List.append_nil]) <;> rfl) | rfl)); rfl) | ((with_reducible apply x_loadA0 tb_ok); rfl; rfl; rfl; assumption; rfl; (first | exact List.not_mem_nil | assumption)) | ((with_reducible apply x_indexN tb_ok); rfl; rfl; rfl; omega; (first | ((simp only [Nat.reduceAdd, Nat.reduceMul, Nat.zero_add, Nat.add_zero, Nat.mul_one, Nat.zero_mul, Int.toNat_zero, Int.toNat_one, Int.reduceToNat]) <;> rfl) | rfl)) | ((with_reducible apply x_indexRN tb_ok); rfl; rfl; rfl; omega; (first | ((simp only [Nat.reduceAdd, Nat.reduceMul, Nat.zero_add, Nat.add_zero, Nat.mul_one, Nat.zero_mul, Int.toNat_zero, Int.toNat_one, Int.reduceToNat]) <;> rfl) | rfl)) | ((with_reducible apply x_index tb_ok); rfl; rfl; rfl; omega; omega; (first | ((simp only [Nat.reduceAdd, Nat.reduceMul, Nat.zero_add, Nat.add_zero, Nat.mul_one, Nat.zero_mul, Int.toNat_zero, Int.toNat_one, Int.reduceToNat]) <;> rfl) | rfl)) | ((with_reducible apply x_indexR tb_ok); rfl; rfl; rfl; omega; omega; (first | ((simp only [Nat.reduceAdd, Nat.reduceMul, Nat.zero_add, Nat.add_zero, Nat.mul_one, Nat.zero_mul, Int.toNat_zero, Int.toNat_one, Int.reduceToNat]) <;> rfl) | rfl)) | ((with_reducible apply x_len tb_ok); rfl; rfl) | ((with_reducible apply x_orT); rfl; rfl) | ((with_reducible apply x_andF); rfl; rfl) | ((with_reducible apply x_or); rfl; rfl) | ((with_reducible apply x_and); rfl; rfl) | ((with_reducible apply x_pick); rfl; rfl; rfl) | ((with_reducible apply x_not); rfl) | ((with_reducible apply x_extract); rfl; rfl) | ((with_reducible apply x_nilCheck); rfl) | ((with_reducible apply x_lss); rfl; rfl) | ((with_reducible apply x_leq); rfl; rfl) | ((with_reducible apply x_gtr); rfl; rfl) | ((with_reducible apply x_geq); rfl; rfl) | ((with_reducible apply x_eql); rfl; rfl) | ((with_reducible apply x_neq); rfl; rfl) | ((with_reducible apply x_eqlb tb_ok); rfl; rfl; rfl) | ((with_reducible apply x_neqb tb_ok); rfl; rfl; rfl) | ((with_reducible apply x_eqlA lt_ok); rfl; rfl; rfl; rfl; rfl) | ((with_reducible apply x_neqA lt_ok); rfl; rfl; rfl; rfl; rfl) | ((with_reducible apply x_inc); rfl; rfl; omega) | ((with_reducible apply x_add); rfl; rfl; omega; omega) | ((with_reducible apply x_sub); rfl; rfl; omega; omega) | ((with_reducible apply x_mul); rfl; rfl; omega; omega) | ((with_reducible apply x_convI tb_ok); rfl; rfl; rfl; omega; omega) | ((with_reducible apply x_convU tb_ok); rfl; rfl; rfl; omega; omega) | ((with_reducible apply x_build tb_ok); rfl; (first | ((simp only [Value.cells]) <;> rfl) | rfl); rfl; rfl; rfl; (first | ((simp only [putAt, Value.cells, List.toList_toArray, List.setIfInBounds_toArray, List.set_cons_zero, List.set_cons_succ, List.drop_succ_cons, List.drop_zero, List.take_succ_cons, List.take_zero, List.cons_append, List.nil_append, List.append_nil]) <;> rfl) | rfl)) | ((with_reducible apply x_makeFunc); rfl; rfl) | ((with_reducible apply x_addW); rfl; rfl) | ((with_reducible apply x_subW); rfl; rfl))) | ((with_reducible apply z_box); rfl; rfl; (first | ((simp only [Value.cells]) <;> rfl) | rfl); intro blk) | ((with_reducible apply z_alloc tb_ok); rfl; rfl; (first | ((simp only [Value.cells]) <;> rfl) | rfl); intro blk) | ((with_reducible apply z_store tb_ok); rfl; rfl; (first | ((simp only [Value.cells]) <;> rfl) | rfl); rfl; rfl; (first | (with_reducible apply p0) | (with_reducible apply p1) | (with_reducible apply p2) | (with_reducible apply p3) | (with_reducible apply p4) | (with_reducible apply p5)); (first | rfl | (focus (simp; done))); (first | omega | (focus (simp; done)) | (focus (simp; omega))); (first | ((simp only [putAt, List.toList_toArray, List.setIfInBounds_toArray, List.set_cons_zero, List.set_cons_succ, List.drop_succ_cons, List.drop_zero, List.take_succ_cons, List.take_zero, List.cons_append, List.nil_append, List.append_nil]) <;> rfl) | rfl)) | ((with_reducible apply z_bslice tb_ok); rfl; rfl; rfl; (first | ((simp only [Value.cells]) <;> rfl) | rfl); rfl; rfl; rfl; rfl; (first | ((simp only [putAt, rep, Value.cells, Nat.reduceMul, Nat.zero_mul, Nat.one_mul, Nat.mul_one, List.toList_toArray, List.setIfInBounds_toArray, List.set_cons_zero, List.set_cons_succ, List.drop_succ_cons, List.drop_zero, List.take_succ_cons, List.take_zero, List.cons_append, List.nil_append, List.append_nil]) <;> rfl) | rfl); intro blk) | ((with_reducible apply op1g); rfl; rfl; rfl; rfl; (intro hg1; (try simp only [hg1, gv_true, Bool.true_and]); (first | ((with_reducible apply x_move); rfl) | ((with_reducible apply x_assign); rfl) | ((with_reducible apply x_field tb_ok); rfl; rfl; rfl; (first | ((simp only [Nat.reduceAdd, Nat.reduceMul, Nat.zero_add, Nat.add_zero, Nat.mul_one, Nat.zero_mul, Int.toNat_zero, Int.toNat_one, Int.reduceToNat]) <;> rfl) | rfl)) | ((with_reducible apply x_load tb_ok); rfl; rfl; (first | (with_reducible apply mh) | (focus ((repeat (first | (with_reducible apply mh) | (with_reducible apply mt) | (with_reducible apply List.mem_append_right))); done))); (first | rfl | assumption)) | ((with_reducible apply x_load0 tb_ok); rfl; rfl; assumption; (first | exact List.not_mem_nil | assumption)) | ((with_reducible apply x_loadA tb_ok); rfl; rfl; rfl; (first | (with_reducible apply mh) | (focus ((repeat (first | (with_reducible apply mh) | (with_reducible apply mt) | (with_reducible apply List.mem_append_right))); done))); (first | assumption | (first | ((simp only [putAt, List.toList_toArray, List.setIfInBounds_toArray, List.set_cons_zero, List.set_cons_succ, List.drop_succ_cons, List.drop_zero, List.take_succ_cons, List.take_zero, List.cons_append, List.nil_append, List.append_nil]) <;> rfl) | rfl)); rfl) | ((with_reducible apply x_loadA0 tb_ok); rfl; rfl; rfl; assumption; rfl; (first | exact List.not_mem_nil | assumption)) | ((with_reducible apply x_indexN tb_ok); rfl; rfl; rfl; (first | omega | ((try simp only [wnt, cond_true, cond_false, decide_eq_true_eq, Bool.not_eq_true', decide_eq_false_iff_not, Bool.and_eq_true, Bool.or_eq_true] at *); omega)); (first | ((simp only [Nat.reduceAdd, Nat.reduceMul, Nat.zero_add, Nat.add_zero, Nat.mul_one, Nat.zero_mul, Int.toNat_zero, Int.toNat_one, Int.reduceToNat]) <;> rfl) | rfl)) | ((with_reducible apply x_indexRN tb_ok); rfl; rfl; rfl; (first | omega | ((try simp only [wnt, cond_true, cond_false, decide_eq_true_eq, Bool.not_eq_true', decide_eq_false_iff_not, Bool.and_eq_true, Bool.or_eq_true] at *); omega)); (first | ((simp only [Nat.reduceAdd, Nat.reduceMul, Nat.zero_add, Nat.add_zero, Nat.mul_one, Nat.zero_mul, Int.toNat_zero, Int.toNat_one, Int.reduceToNat]) <;> rfl) | rfl)) | ((with_reducible apply x_index tb_ok); rfl; rfl; rfl; (first | omega | ((try simp only [wnt, cond_true, cond_false, decide_eq_true_eq, Bool.not_eq_true', decide_eq_false_iff_not, Bool.and_eq_true, Bool.or_eq_true] at *); omega)); (first | omega | ((try simp only [wnt, cond_true, cond_false, decide_eq_true_eq, Bool.not_eq_true', decide_eq_false_iff_not, Bool.and_eq_true, Bool.or_eq_true] at *); omega)); (first | ((simp only [Nat.reduceAdd, Nat.reduceMul, Nat.zero_add, Nat.add_zero, Nat.mul_one, Nat.zero_mul, Int.toNat_zero, Int.toNat_one, Int.reduceToNat]) <;> rfl) | rfl)) | ((with_reducible apply x_indexR tb_ok); rfl; rfl; rfl; (first | omega | ((try simp only [wnt, cond_true, cond_false, decide_eq_true_eq, Bool.not_eq_true', decide_eq_false_iff_not, Bool.and_eq_true, Bool.or_eq_true] at *); omega)); (first | omega | ((try simp only [wnt, cond_true, cond_false, decide_eq_true_eq, Bool.not_eq_true', decide_eq_false_iff_not, Bool.and_eq_true, Bool.or_eq_true] at *); omega)); (first | ((simp only [Nat.reduceAdd, Nat.reduceMul, Nat.zero_add, Nat.add_zero, Nat.mul_one, Nat.zero_mul, Int.toNat_zero, Int.toNat_one, Int.reduceToNat]) <;> rfl) | rfl)) | ((with_reducible apply x_len tb_ok); rfl; rfl) | ((with_reducible apply x_orT); rfl; rfl) | ((with_reducible apply x_andF); rfl; rfl) | ((with_reducible apply x_or); rfl; rfl) | ((with_reducible apply x_and); rfl; rfl) | ((with_reducible apply x_pick); rfl; rfl; rfl) | ((with_reducible apply x_not); rfl) | ((with_reducible apply x_extract); rfl; rfl) | ((with_reducible apply x_nilCheck); rfl) | ((with_reducible apply x_lss); rfl; rfl) | ((with_reducible apply x_leq); rfl; rfl) | ((with_reducible apply x_gtr); rfl; rfl) | ((with_reducible apply x_geq); rfl; rfl) | ((with_reducible apply x_eql); rfl; rfl) | ((with_reducible apply x_neq); rfl; rfl) | ((with_reducible apply x_eqlb tb_ok); rfl; rfl; rfl) | ((with_reducible apply x_neqb tb_ok); rfl; rfl; rfl) | ((with_reducible apply x_eqlA lt_ok); rfl; rfl; rfl; rfl; rfl) | ((with_reducible apply x_neqA lt_ok); rfl; rfl; rfl; rfl; rfl) | ((with_reducible apply x_inc); rfl; rfl; (first | omega | ((try simp only [wnt, cond_true, cond_false, decide_eq_true_eq, Bool.not_eq_true', decide_eq_false_iff_not, Bool.and_eq_true, Bool.or_eq_true] at *); omega))) | ((with_reducible apply x_add); rfl; rfl; (first | omega | ((try simp only [wnt, cond_true, cond_false, decide_eq_true_eq, Bool.not_eq_true', decide_eq_false_iff_not, Bool.and_eq_true, Bool.or_eq_true] at *); omega)); (first | omega | ((try simp only [wnt, cond_true, cond_false, decide_eq_true_eq, Bool.not_eq_true', decide_eq_false_iff_not, Bool.and_eq_true, Bool.or_eq_true] at *); omega))) | ((with_reducible apply x_sub); rfl; rfl; (first | omega | ((try simp only [wnt, cond_true, cond_false, decide_eq_true_eq, Bool.not_eq_true', decide_eq_false_iff_not, Bool.and_eq_true, Bool.or_eq_true] at *); omega)); (first | omega | ((try simp only [wnt, cond_true, cond_false, decide_eq_true_eq, Bool.not_eq_true', decide_eq_false_iff_not, Bool.and_eq_true, Bool.or_eq_true] at *); omega))) | ((with_reducible apply x_mul); rfl; rfl; (first | omega | ((try simp only [wnt, cond_true, cond_false, decide_eq_true_eq, Bool.not_eq_true', decide_eq_false_iff_not, Bool.and_eq_true, Bool.or_eq_true] at *); omega)); (first | omega | ((try simp only [wnt, cond_true, cond_false, decide_eq_true_eq, Bool.not_eq_true', decide_eq_false_iff_not, Bool.and_eq_true, Bool.or_eq_true] at *); omega))) | ((with_reducible apply x_convI tb_ok); rfl; rfl; rfl; (first | omega | ((try simp only [wnt, cond_true, cond_false, decide_eq_true_eq, Bool.not_eq_true', decide_eq_false_iff_not, Bool.and_eq_true, Bool.or_eq_true] at *); omega)); (first | omega | ((try simp only [wnt, cond_true, cond_false, decide_eq_true_eq, Bool.not_eq_true', decide_eq_false_iff_not, Bool.and_eq_true, Bool.or_eq_true] at *); omega))) | ((with_reducible apply x_convU tb_ok); rfl; rfl; rfl; (first | omega | ((try simp only [wnt, cond_true, cond_false, decide_eq_true_eq, Bool.not_eq_true', decide_eq_false_iff_not, Bool.and_eq_true, Bool.or_eq_true] at *); omega)); (first | omega | ((try simp only [wnt, cond_true, cond_false, decide_eq_true_eq, Bool.not_eq_true', decide_eq_false_iff_not, Bool.and_eq_true, Bool.or_eq_true] at *); omega))) | ((with_reducible apply x_build tb_ok); rfl; (first | ((simp only [Value.cells]) <;> rfl) | rfl); rfl; rfl; rfl; (first | ((simp only [putAt, Value.cells, List.toList_toArray, List.setIfInBounds_toArray, List.set_cons_zero, List.set_cons_succ, List.drop_succ_cons, List.drop_zero, List.take_succ_cons, List.take_zero, List.cons_append, List.nil_append, List.append_nil]) <;> rfl) | rfl)) | ((with_reducible apply x_makeFunc); rfl; rfl) | ((with_reducible apply x_addW); rfl; rfl) | ((with_reducible apply x_subW); rfl; rfl) | exact hyAbs hg1 rfl))) | ((with_reducible apply op1gg); rfl; rfl; rfl; rfl; (intro hg0 hg1; have hgC := hg0; (try simp only [Bool.and_eq_true] at hg0); (try simp only [hg0, hg1, gv_true, Bool.true_and, Bool.and_true, Bool.and_self]); (first | ((with_reducible apply x_move); rfl) | ((with_reducible apply x_assign); rfl) | ((with_reducible apply x_field tb_ok); rfl; rfl; rfl; (first | ((simp only [Nat.reduceAdd, Nat.reduceMul, Nat.zero_add, Nat.add_zero, Nat.mul_one, Nat.zero_mul, Int.toNat_zero, Int.toNat_one, Int.reduceToNat]) <;> rfl) | rfl)) | ((with_reducible apply x_load tb_ok); rfl; rfl; (first | (with_reducible apply mh) | (focus ((repeat (first | (with_reducible apply mh) | (with_reducible apply mt) | (with_reducible apply List.mem_append_right))); done))); (first | rfl | assumption)) | ((with_reducible apply x_load0 tb_ok); rfl; rfl; assumption; (first | exact List.not_mem_nil | assumption)) | ((with_reducible apply x_loadA tb_ok); rfl; rfl; rfl; (first | (with_reducible apply mh) | (focus ((repeat (first | (with_reducible apply mh) | (with_reducible apply mt) | (with_reducible apply List.mem_append_right))); done))); (first | assumption | (first | ((simp only [putAt, List.toList_toArray, List.setIfInBounds_toArray, List.set_cons_zero, List.set_cons_succ, List.drop_succ_cons, List.drop_zero, List.take_succ_cons, List.take_zero, List.cons_append, List.nil_append, List.append_nil]) <;> rfl) | rfl)); rfl) | ((with_reducible apply x_loadA0 tb_ok); rfl; rfl; rfl; assumption; rfl; (first | exact List.not_mem_nil | assumption)) | ((with_reducible apply x_indexN tb_ok); rfl; rfl; rfl; (first | omega | ((try simp only [wnt, cond_true, cond_false, decide_eq_true_eq, Bool.not_eq_true', decide_eq_false_iff_not, Bool.and_eq_true, Bool.or_eq_true] at *); omega)); (first | ((simp only [Nat.reduceAdd, Nat.reduceMul, Nat.zero_add, Nat.add_zero, Nat.mul_one, Nat.zero_mul, Int.toNat_zero, Int.toNat_one, Int.reduceToNat]) <;> rfl) | rfl)) | ((with_reducible apply x_indexRN tb_ok); rfl; rfl; rfl; (first | omega | ((try simp only [wnt, cond_true, cond_false, decide_eq_true_eq, Bool.not_eq_true', decide_eq_false_iff_not, Bool.and_eq_true, Bool.or_eq_true] at *); omega)); (first | ((simp only [Nat.reduceAdd, Nat.reduceMul, Nat.zero_add, Nat.add_zero, Nat.mul_one, Nat.zero_mul, Int.toNat_zero, Int.toNat_one, Int.reduceToNat]) <;> rfl) | rfl)) | ((with_reducible apply x_index tb_ok); rfl; rfl; rfl; (first | omega | ((try simp only [wnt, cond_true, cond_false, decide_eq_true_eq, Bool.not_eq_true', decide_eq_false_iff_not, Bool.and_eq_true, Bool.or_eq_true] at *); omega)); (first | omega | ((try simp only [wnt, cond_true, cond_false, decide_eq_true_eq, Bool.not_eq_true', decide_eq_false_iff_not, Bool.and_eq_true, Bool.or_eq_true] at *); omega)); (first | ((simp only [Nat.reduceAdd, Nat.reduceMul, Nat.zero_add, Nat.add_zero, Nat.mul_one, Nat.zero_mul, Int.toNat_zero, Int.toNat_one, Int.reduceToNat]) <;> rfl) | rfl)) | ((with_reducible apply x_indexR tb_ok); rfl; rfl; rfl; (first | omega | ((try simp only [wnt, cond_true, cond_false, decide_eq_true_eq, Bool.not_eq_true', decide_eq_false_iff_not, Bool.and_eq_true, Bool.or_eq_true] at *); omega)); (first | omega | ((try simp only [wnt, cond_true, cond_false, decide_eq_true_eq, Bool.not_eq_true', decide_eq_false_iff_not, Bool.and_eq_true, Bool.or_eq_true] at *); omega)); (first | ((simp only [Nat.reduceAdd, Nat.reduceMul, Nat.zero_add, Nat.add_zero, Nat.mul_one, Nat.zero_mul, Int.toNat_zero, Int.toNat_one, Int.reduceToNat]) <;> rfl) | rfl)) | ((with_reducible apply x_len tb_ok); rfl; rfl) | ((with_reducible apply x_orT); rfl; rfl) | ((with_reducible apply x_andF); rfl; rfl) | ((with_reducible apply x_or); rfl; rfl) | ((with_reducible apply x_and); rfl; rfl) | ((with_reducible apply x_pick); rfl; rfl; rfl) | ((with_reducible apply x_not); rfl) | ((with_reducible apply x_extract); rfl; rfl) | ((with_reducible apply x_nilCheck); rfl) | ((with_reducible apply x_lss); rfl; rfl) | ((with_reducible apply x_leq); rfl; rfl) | ((with_reducible apply x_gtr); rfl; rfl) | ((with_reducible apply x_geq); rfl; rfl) | ((with_reducible apply x_eql); rfl; rfl) | ((with_reducible apply x_neq); rfl; rfl) | ((with_reducible apply x_eqlb tb_ok); rfl; rfl; rfl) | ((with_reducible apply x_neqb tb_ok); rfl; rfl; rfl) | ((with_reducible apply x_eqlA lt_ok); rfl; rfl; rfl; rfl; rfl) | ((with_reducible apply x_neqA lt_ok); rfl; rfl; rfl; rfl; rfl) | ((with_reducible apply x_inc); rfl; rfl; (first | omega | ((try simp only [wnt, cond_true, cond_false, decide_eq_true_eq, Bool.not_eq_true', decide_eq_false_iff_not, Bool.and_eq_true, Bool.or_eq_true] at *); omega))) | ((with_reducible apply x_add); rfl; rfl; (first | omega | ((try simp only [wnt, cond_true, cond_false, decide_eq_true_eq, Bool.not_eq_true', decide_eq_false_iff_not, Bool.and_eq_true, Bool.or_eq_true] at *); omega)); (first | omega | ((try simp only [wnt, cond_true, cond_false, decide_eq_true_eq, Bool.not_eq_true', decide_eq_false_iff_not, Bool.and_eq_true, Bool.or_eq_true] at *); omega))) | ((with_reducible apply x_sub); rfl; rfl; (first | omega | ((try simp only [wnt, cond_true, cond_false, decide_eq_true_eq, Bool.not_eq_true', decide_eq_false_iff_not, Bool.and_eq_true, Bool.or_eq_true] at *); omega)); (first | omega | ((try simp only [wnt, cond_true, cond_false, decide_eq_true_eq, Bool.not_eq_true', decide_eq_false_iff_not, Bool.and_eq_true, Bool.or_eq_true] at *); omega))) | ((with_reducible apply x_mul); rfl; rfl; (first | omega | ((try simp only [wnt, cond_true, cond_false, decide_eq_true_eq, Bool.not_eq_true', decide_eq_false_iff_not, Bool.and_eq_true, Bool.or_eq_true] at *); omega)); (first | omega | ((try simp only [wnt, cond_true, cond_false, decide_eq_true_eq, Bool.not_eq_true', decide_eq_false_iff_not, Bool.and_eq_true, Bool.or_eq_true] at *); omega))) | ((with_reducible apply x_convI tb_ok); rfl; rfl; rfl; (first | omega | ((try simp only [wnt, cond_true, cond_false, decide_eq_true_eq, Bool.not_eq_true', decide_eq_false_iff_not, Bool.and_eq_true, Bool.or_eq_true] at *); omega)); (first | omega | ((try simp only [wnt, cond_true, cond_false, decide_eq_true_eq, Bool.not_eq_true', decide_eq_false_iff_not, Bool.and_eq_true, Bool.or_eq_true] at *); omega))) | ((with_reducible apply x_convU tb_ok); rfl; rfl; rfl; (first | omega | ((try simp only [wnt, cond_true, cond_false, decide_eq_true_eq, Bool.not_eq_true', decide_eq_false_iff_not, Bool.and_eq_true, Bool.or_eq_true] at *); omega)); (first | omega | ((try simp only [wnt, cond_true, cond_false, decide_eq_true_eq, Bool.not_eq_true', decide_eq_false_iff_not, Bool.and_eq_true, Bool.or_eq_true] at *); omega))) | ((with_reducible apply x_build tb_ok); rfl; (first | ((simp only [Value.cells]) <;> rfl) | rfl); rfl; rfl; rfl; (first | ((simp only [putAt, Value.cells, List.toList_toArray, List.setIfInBounds_toArray, List.set_cons_zero, List.set_cons_succ, List.drop_succ_cons, List.drop_zero, List.take_succ_cons, List.take_zero, List.cons_append, List.nil_append, List.append_nil]) <;> rfl) | rfl)) | ((with_reducible apply x_makeFunc); rfl; rfl) | ((with_reducible apply x_addW); rfl; rfl) | ((with_reducible apply x_subW); rfl; rfl) | exact hyAbs hg1 rfl | exact hyAbsC hgC rfl))) | ((with_reducible apply op1gu); rfl; rfl; rfl; rfl))); (repeat revert blk); exact kLeft.get)) : G := h ⟨k⟩
section
variable {w : World} {wv gv ev dv pv : Value} {ws : List Nat} {pgs : List Int} {es : List EnD} {ds : List IvD} {ps : List PkD} {one two : RtD} {fr ac : Int}
theorem picks_e (h : Ak14 w wv gv ev dv pv ws pgs es ds ps) (k : Int) (hk : 0 ≤ k ∧ k ≤ 3) : Fn Tryz.prog 24 [.agg #[wv, .int .i64 fr, gv, .bool one.on, .int .i64 one.frame, .int .i64 one.tag, .bool two.on, .int .i64 two.frame, .int .i64 two.tag, .int .i64 ac, ev, dv, pv], .int .i64 k].toArray w [] (fun u _ => u = .bool true) := by
  have h' := h
  obtain ⟨q1, c1, rfl, hwc⟩ := h.wcap
  obtain ⟨q2, c2, rfl, hne2, _⟩ := h.sg.opened
  obtain ⟨q3, c3, rfl, hcl⟩ := h.cap
  obtain ⟨q4, c4, rfl, _, _⟩ := h.sd.opened
  obtain ⟨q5, c5, rfl, hne5, _⟩ := h.sp.opened
  refine enter Tryz.func24 ?_
  refine run ?_
  intro B
  refine callV (fun wc hG => heavy14_e (h'.good hG)) ?_
  rintro _ ⟨hb, rfl, hsm⟩
  refine run ?_
  refine st_cond _ rfl (fun hc => ?_) (fun hc => ?_)
  · refine run ?_
    exact fin1 rfl
  obtain ⟨hwl, hgl, hel, hpl⟩ := hsm hc
  refine run ?_
  intro Qb
  refine loopS (σ := Nat × Value × Hp × List PkD) (fun z => [(6, .int .i64 (z.1 : Int))]) (fun z => ⟨Qb, #[.slice q1 ws.length c1, .int .i64 fr, .slice q2 pgs.length c2, .bool one.on, .int .i64 one.frame, .int .i64 one.tag, .bool two.on, .int .i64 two.frame, .int .i64 two.tag, .int .i64 ac, .slice q3 es.length c3, .slice q4 ds.length c4, z.2.1], 38⟩ :: ⟨B, #[.slice q1 ws.length c1, .int .i64 fr, .slice q2 pgs.length c2, .bool one.on, .int .i64 one.frame, .int .i64 one.tag, .bool two.on, .int .i64 two.frame, .int .i64 two.tag, .int .i64 ac, .slice q3 es.length c3, .slice q4 ds.length c4, .slice q5 ps.length c5], 38⟩ :: z.2.2.1) (fun z => z.1 ≤ ps.length ∧ z.2.2.2.length = z.1 ∧ Own 42 6 z.2.1 z.2.2.1 (z.2.2.2.map pkV)) (fun z => ps.length - z.1) (0, .slice none 0 0, [], []) ⟨Nat.zero_le _, rfl, Own.nil _ _⟩ ?_
  rintro ⟨i, v, ha, xs⟩ m hm ⟨hi, hxl, hO⟩
  dsimp only at hm hi hxl hO ⊢
  refine run ?_
  refine st_cond _ rfl (fun hc1 => ?_) (fun hc1 => ?_)
  · have hlt : i < ps.length := by simp at hc1; omega
    obtain ⟨b5, o5, rfl⟩ := hne5 (by intro e; rw [e] at hlt; simp at hlt)
    have hr5 := h.sp.row hlt
    generalize ps.getD i default = pk at hr5
    refine run ?_
    intro X
    refine op1 (by rfl) (x_remN rfl rfl i 2 rfl rfl (by decide)) ?_
    refine runB14 ?_
    refine st_cutD (σ := PkD) (fun _ => []) (fun z => ⟨X, #[.int .i64 z.cpu, .bool z.fill, .bool z.mids, .bool z.walk, .int .i64 z.drop, .bool z.use], 42⟩ :: ⟨Qb, #[.slice q1 ws.length c1, .int .i64 fr, .slice q2 pgs.length c2, .bool one.on, .int .i64 one.frame, .int .i64 one.tag, .bool two.on, .int .i64 two.frame, .int .i64 two.tag, .int .i64 ac, .slice q3 es.length c3, .slice q4 ds.length c4, v], 38⟩ :: ⟨B, #[.slice q1 ws.length c1, .int .i64 fr, .slice q2 pgs.length c2, .bool one.on, .int .i64 one.frame, .int .i64 one.tag, .bool two.on, .int .i64 two.frame, .int .i64 two.tag, .int .i64 ac, .slice q3 es.length c3, .slice q4 ds.length c4, .slice (some ⟨b5, o5, none⟩) ps.length c5], 38⟩ :: ha) (fun _ => True) ?_ ?_
    · refine run ?_
      refine st_cond _ rfl (fun h0 => ?_) (fun h0 => ?_)
      · refine run ?_
        exact meetS (⟨pk.cpu, true, false, false, pk.drop, decide (((i % 2 : Nat) : Int) = 1)⟩ : PkD) trivial (h2 := by (refine hpLe_cnt fun a => ?_; simp only [cntB_app, cntB_cons, cntB_nil] <;> omega))
      refine run ?_
      refine st_cond _ rfl (fun h0 => ?_) (fun h0 => ?_)
      · refine run ?_
        exact meetS (⟨pk.cpu, false, true, false, pk.drop, decide (((i % 2 : Nat) : Int) = 1)⟩ : PkD) trivial (h2 := by (refine hpLe_cnt fun a => ?_; simp only [cntB_app, cntB_cons, cntB_nil] <;> omega))
      refine run ?_
      refine st_cond _ rfl (fun h0 => ?_) (fun h0 => ?_)
      · refine run ?_
        exact meetS (⟨pk.cpu, false, false, true, pk.drop, decide (((i % 2 : Nat) : Int) = 1)⟩ : PkD) trivial (h2 := by (refine hpLe_cnt fun a => ?_; simp only [cntB_app, cntB_cons, cntB_nil] <;> omega))
      refine run ?_
      refine st_cond _ rfl (fun h0 => ?_) (fun h0 => ?_)
      · refine run ?_
        exact meetS (⟨pk.cpu, true, true, true, pk.drop, true⟩ : PkD) trivial (h2 := by (refine hpLe_cnt fun a => ?_; simp only [cntB_app, cntB_cons, cntB_nil] <;> omega))
      refine run ?_
      exact meetS (⟨pk.cpu, pk.fill, pk.mids, pk.walk, pk.drop, decide (((i % 2 : Nat) : Int) = 1)⟩ : PkD) trivial (h2 := by (refine hpLe_cnt fun a => ?_; simp only [cntB_app, cntB_cons, cntB_nil] <;> omega))
    rintro z -
    refine run ?_
    intro Z
    refine appendW (c := pkV z) (⟨Z, #[.int .i64 z.cpu, .bool z.fill, .bool z.mids, .bool z.walk, .int .i64 z.drop, .bool z.use], 42⟩ :: ⟨X, #[.int .i64 z.cpu, .bool z.fill, .bool z.mids, .bool z.walk, .int .i64 z.drop, .bool z.use], 42⟩ :: ⟨Qb, #[.slice q1 ws.length c1, .int .i64 fr, .slice q2 pgs.length c2, .bool one.on, .int .i64 one.frame, .int .i64 one.tag, .bool two.on, .int .i64 two.frame, .int .i64 two.tag, .int .i64 ac, .slice q3 es.length c3, .slice q4 ds.length c4, v], 38⟩ :: ⟨B, #[.slice q1 ws.length c1, .int .i64 fr, .slice q2 pgs.length c2, .bool one.on, .int .i64 one.frame, .int .i64 one.tag, .bool two.on, .int .i64 two.frame, .int .i64 two.tag, .int .i64 ac, .slice q3 es.length c3, .slice q4 ds.length c4, .slice (some ⟨b5, o5, none⟩) ps.length c5], 38⟩ :: []) hO (fun v' ha' hA' => ?_) (by rw [List.length_map]; omega) (news_own (m := 6) mh rfl) (hperm := by (refine perm_cnt fun a => ?_; simp only [cntB_app, cntB_cons, cntB_nil] <;> omega))
    rw [show xs.map pkV ++ [pkV z] = (xs ++ [z]).map pkV by simp] at hA'
    obtain ⟨q6, c6, e6⟩ := hA'.opened
    subst e6
    refine ops_le (⟨Qb, #[.slice q1 ws.length c1, .int .i64 fr, .slice q2 pgs.length c2, .bool one.on, .int .i64 one.frame, .int .i64 one.tag, .bool two.on, .int .i64 two.frame, .int .i64 two.tag, .int .i64 ac, .slice q3 es.length c3, .slice q4 ds.length c4, v], 38⟩ :: ⟨B, #[.slice q1 ws.length c1, .int .i64 fr, .slice q2 pgs.length c2, .bool one.on, .int .i64 one.frame, .int .i64 one.tag, .bool two.on, .int .i64 two.frame, .int .i64 two.tag, .int .i64 ac, .slice q3 es.length c3, .slice q4 ds.length c4, .slice (some ⟨b5, o5, none⟩) ps.length c5], 38⟩ :: ha') (by (refine hpLe_cnt fun a => ?_; simp only [cntB_app, cntB_cons, cntB_nil] <;> omega)) ?_
    refine run ?_
    exact nextS (i + 1, .slice q6 ((xs ++ [z]).map pkV).length c6, ha', xs ++ [z]) ⟨by omega, by simp [hxl], hA'⟩ (hm := by omega) (h2 := by (refine hpLe_cnt fun a => ?_; simp only [cntB_app, cntB_cons, cntB_nil] <;> omega))
  refine run ?_
  refine callE (fun wc hG => lawAccessExact_e (one := one) (two := two) (fr := fr) (ac := ac) ⟨h.w64, (Sees.old h.sw).good hG, ⟨_, _, rfl, hwc⟩, (Sees.old h.sg).good hG, (Sees.old h.se).good hG, ⟨_, _, rfl, hcl⟩, (Sees.old h.sd).good hG, hO.lie (fun b hb => hG.here b (by simp [hb])) (by rw [List.length_map]; omega), h.wl, h.gl, h.el, h.dl, by omega⟩) ?_
  refine run ?_
  exact fin1 rfl
theorem lawAccessFills_e (h : Ak14 w wv gv ev dv pv ws pgs es ds ps) : Fn Tryz.prog 5 [.agg #[wv, .int .i64 fr, gv, .bool one.on, .int .i64 one.frame, .int .i64 one.tag, .bool two.on, .int .i64 two.frame, .int .i64 two.tag, .int .i64 ac, ev, dv, pv]].toArray w [] (fun u _ => u = .bool true) := by
  refine enter Tryz.func5 ?_
  refine run ?_
  intro B
  refine callE (fun wc hG => picks_e (one := one) (two := two) (fr := fr) (ac := ac) (h.good hG) 0 (by decide)) ?_
  refine run ?_
  exact fin1 rfl
theorem lawAccessMids_e (h : Ak14 w wv gv ev dv pv ws pgs es ds ps) : Fn Tryz.prog 6 [.agg #[wv, .int .i64 fr, gv, .bool one.on, .int .i64 one.frame, .int .i64 one.tag, .bool two.on, .int .i64 two.frame, .int .i64 two.tag, .int .i64 ac, ev, dv, pv]].toArray w [] (fun u _ => u = .bool true) := by
  refine enter Tryz.func6 ?_
  refine run ?_
  intro B
  refine callE (fun wc hG => picks_e (one := one) (two := two) (fr := fr) (ac := ac) (h.good hG) 1 (by decide)) ?_
  refine run ?_
  exact fin1 rfl
theorem lawAccessWalks_e (h : Ak14 w wv gv ev dv pv ws pgs es ds ps) : Fn Tryz.prog 7 [.agg #[wv, .int .i64 fr, gv, .bool one.on, .int .i64 one.frame, .int .i64 one.tag, .bool two.on, .int .i64 two.frame, .int .i64 two.tag, .int .i64 ac, ev, dv, pv]].toArray w [] (fun u _ => u = .bool true) := by
  refine enter Tryz.func7 ?_
  refine run ?_
  intro B
  refine callE (fun wc hG => picks_e (one := one) (two := two) (fr := fr) (ac := ac) (h.good hG) 2 (by decide)) ?_
  refine run ?_
  exact fin1 rfl
theorem lawAccessUses_e (h : Ak14 w wv gv ev dv pv ws pgs es ds ps) : Fn Tryz.prog 8 [.agg #[wv, .int .i64 fr, gv, .bool one.on, .int .i64 one.frame, .int .i64 one.tag, .bool two.on, .int .i64 two.frame, .int .i64 two.tag, .int .i64 ac, ev, dv, pv]].toArray w [] (fun u _ => u = .bool true) := by
  refine enter Tryz.func8 ?_
  refine run ?_
  intro B
  refine callE (fun wc hG => picks_e (one := one) (two := two) (fr := fr) (ac := ac) (h.good hG) 3 (by decide)) ?_
  refine run ?_
  exact fin1 rfl
end
end Go.Proofs.YtdaenalnmdmflaaGreat
namespace Go.Proofs.YtdaenalnmdmflaaGreat
open Go.ChangeShapes Go.WideShapes Go.ChangeAt Go.RowKit
set_option linter.unusedVariables false
set_option linter.unusedSimpArgs false
set_option maxRecDepth 20000
theorem pick_of {cs : List Value} (h : okLvW [.i .i64, .b, .b, .b, .i .i64, .b] cs = true) : ∃ e : PkD, cs = pkV e ∧ True := by
  obtain ⟨_, _, rfl, h0, r0⟩ := okLvW_cons h
  obtain ⟨_, _, rfl, h1, r1⟩ := okLvW_cons r0
  obtain ⟨_, _, rfl, h2, r2⟩ := okLvW_cons r1
  obtain ⟨_, _, rfl, h3, r3⟩ := okLvW_cons r2
  obtain ⟨_, _, rfl, h4, r4⟩ := okLvW_cons r3
  obtain ⟨_, _, rfl, h5, r5⟩ := okLvW_cons r4
  obtain ⟨a0, rfl, _⟩ := okW_i h0
  obtain ⟨a1, rfl⟩ := okW_b h1
  obtain ⟨a2, rfl⟩ := okW_b h2
  obtain ⟨a3, rfl⟩ := okW_b h3
  obtain ⟨a4, rfl, _⟩ := okW_i h4
  obtain ⟨a5, rfl⟩ := okW_b h5
  obtain rfl := okLvW_nil r5
  exact ⟨⟨a0, a1, a2, a3, a4, a5⟩, rfl, trivial⟩
theorem root_of {cs : List Value} (h : okLvW [.b, .i .i64, .i .i64] cs = true) : ∃ e : RtD, cs = rtV e := by
  obtain ⟨_, _, rfl, h0, r0⟩ := okLvW_cons h
  obtain ⟨_, _, rfl, h1, r1⟩ := okLvW_cons r0
  obtain ⟨_, _, rfl, h2, r2⟩ := okLvW_cons r1
  obtain ⟨a0, rfl⟩ := okW_b h0
  obtain ⟨a1, rfl, _⟩ := okW_i h1
  obtain ⟨a2, rfl, _⟩ := okW_i h2
  obtain rfl := okLvW_nil r2
  exact ⟨⟨a0, a1, a2⟩, rfl⟩
section
variable {H : Type} {enc : TypeId × Value → H} {w : World} {base : Nat} {spare : Nat → Bool} {held : Bool}
theorem open_picks {fuel : Nat} {cs : List Value} {x : DataW H × List MemPlace} (h : DataW.trod enc Tryz.prog w base spare held fuel 36 cs = some x) (hz : Szd Tryz.prog 36 x.1) : ∃ v, ∃ xs : List PkD, cs = [v] ∧ SlAt w v 6 (xs.map pkV) ∧ (∀ a ∈ xs, True) ∧ xs.length ≤ reachBytes :=
  open_flatL (f := pkV) (q := fun _ => True) (ks := [.i .i64, .b, .b, .b, .i .i64, .b]) Tryz.underlying36 (by kernel_rfl) (tb_ok.gsz (t := 42) (s := 6) rfl) (by decide) (by kernel_rfl) (fun cs hc => pick_of hc) h hz
theorem open_memW {fuel : Nat} {cs : List Value} {x : DataW H × List MemPlace} (h : DataW.trod enc Tryz.prog w base spare held fuel 24 cs = some x) (hz : Szd Tryz.prog 24 x.1) : ∃ v, ∃ ws : List Nat, cs = [v] ∧ W64 ws ∧ SlAt w v 1 (ws.map uV) ∧ (∃ q c, v = .slice q ws.length c ∧ ws.length ≤ c) ∧ ws.length ≤ reachBytes := by
  obtain ⟨hl, n, hf⟩ := trod_fields Tryz.underlying24 h hz
  rw [cellsOf_sz (show szOf Tryz.prog 24 = some 1 from tb_ok.gsz rfl)] at hl
  match cs, hl with
  | [c0], _ =>
    have s0 : Tryz.prog.cellsOf 22 = 1 := by kernel_rfl
    obtain ⟨_, h0, z0⟩ := hf 0 _ rfl
    simp only [List.getElem_toArray, List.getElem_cons_zero, List.getElem_cons_succ, s0, List.drop_zero, List.drop_succ_cons, List.take_succ_cons, List.take_zero] at h0 z0
    obtain ⟨v, ws, e0, s0, w0, l0⟩ := open_words h0 z0
    cases e0
    obtain ⟨p0, k0, rfl, _, _⟩ := s0.opened
    exact ⟨_, ws, rfl, w0, s0, ⟨_, _, rfl, trod_cap Tryz.underlying22 h0⟩, l0⟩
theorem open_ask5 {fuel : Nat} {cs : List Value} {x : DataW H × List MemPlace} (h : DataW.trod enc Tryz.prog w base spare held fuel 27 cs = some x) (hz : Szd Tryz.prog 27 x.1) : ∃ wv, ∃ ws : List Nat, ∃ fr : Int, ∃ gv, ∃ gs : List Int, cs = [wv, .int .i64 fr, gv] ∧ W64 ws ∧ SlAt w wv 1 (ws.map uV) ∧ (∃ q c, wv = .slice q ws.length c ∧ ws.length ≤ c) ∧ ws.length ≤ reachBytes ∧ SlAt w gv 1 (gs.map inV) ∧ gs.length ≤ reachBytes := by
  obtain ⟨hl, n, hf⟩ := trod_fields Tryz.underlying27 h hz
  rw [cellsOf_sz (show szOf Tryz.prog 27 = some 3 from tb_ok.gsz rfl)] at hl
  match cs, hl with
  | [c0, c1, c2], _ =>
    have s0 : Tryz.prog.cellsOf 24 = 1 := by kernel_rfl
    have s1 : Tryz.prog.cellsOf 3 = 1 := by kernel_rfl
    have s2 : Tryz.prog.cellsOf 25 = 1 := by kernel_rfl
    obtain ⟨_, h0, z0⟩ := hf 0 _ rfl
    obtain ⟨_, h1, z1⟩ := hf 1 _ rfl
    obtain ⟨_, h2, z2⟩ := hf 2 _ rfl
    simp only [List.getElem_toArray, List.getElem_cons_zero, List.getElem_cons_succ, s0, s1, s2, List.drop_zero, List.drop_succ_cons, List.take_succ_cons, List.take_zero] at h0 z0 h1 z1 h2 z2
    obtain ⟨wv, ws, e0, w0, s0, c0, l0⟩ := open_memW h0 z0
    obtain ⟨k1, e1, _⟩ := DataW.trod_int Tryz.underlying3 h1
    obtain ⟨gv, gs, e2, s2, _, l2⟩ := open_intsL h2 z2
    cases e0; cases e1; cases e2
    exact ⟨_, ws, k1, _, gs, rfl, w0, s0, c0, l0, s2, l2⟩
theorem open_ask7 {fuel : Nat} {cs : List Value} {x : DataW H × List MemPlace} (h : DataW.trod enc Tryz.prog w base spare held fuel 31 cs = some x) (hz : Szd Tryz.prog 31 x.1) : ∃ wv, ∃ ws : List Nat, ∃ fr : Int, ∃ gv, ∃ gs : List Int, ∃ one two : RtD, ∃ ac : Int, cs = [wv, .int .i64 fr, gv, .bool one.on, .int .i64 one.frame, .int .i64 one.tag, .bool two.on, .int .i64 two.frame, .int .i64 two.tag, .int .i64 ac] ∧ W64 ws ∧ SlAt w wv 1 (ws.map uV) ∧ (∃ q c, wv = .slice q ws.length c ∧ ws.length ≤ c) ∧ ws.length ≤ reachBytes ∧ SlAt w gv 1 (gs.map inV) ∧ gs.length ≤ reachBytes := by
  obtain ⟨hl, n, hf⟩ := trod_fields Tryz.underlying31 h hz
  rw [cellsOf_sz (show szOf Tryz.prog 31 = some 10 from tb_ok.gsz rfl)] at hl
  match cs, hl with
  | [c0, c1, c2, c3, c4, c5, c6, c7, c8, c9], _ =>
    have s0 : Tryz.prog.cellsOf 27 = 3 := by kernel_rfl
    have s1 : Tryz.prog.cellsOf 29 = 3 := by kernel_rfl
    have s2 : Tryz.prog.cellsOf 3 = 1 := by kernel_rfl
    obtain ⟨_, h0, z0⟩ := hf 0 _ rfl
    obtain ⟨_, h1, z1⟩ := hf 1 _ rfl
    obtain ⟨_, h2, z2⟩ := hf 2 _ rfl
    obtain ⟨_, h3, z3⟩ := hf 3 _ rfl
    simp only [List.getElem_toArray, List.getElem_cons_zero, List.getElem_cons_succ, s0, s1, s2, List.drop_zero, List.drop_succ_cons, List.take_succ_cons, List.take_zero] at h0 z0 h1 z1 h2 z2 h3 z3
    obtain ⟨wv, ws, fr, gv, gs, e0, w0, s0, c0, l0, s2, l2⟩ := open_ask5 h0 z0
    obtain ⟨one, e1⟩ := root_of (trod_leaves 8 29 [.b, .i .i64, .i .i64] (by kernel_rfl) (by kernel_rfl) _ _ _ h1)
    obtain ⟨two, e2⟩ := root_of (trod_leaves 8 29 [.b, .i .i64, .i .i64] (by kernel_rfl) (by kernel_rfl) _ _ _ h2)
    obtain ⟨k3, e3, _⟩ := DataW.trod_int Tryz.underlying3 h3
    cases e0; cases e1; cases e2; cases e3
    exact ⟨_, ws, fr, _, gs, one, two, k3, rfl, w0, s0, c0, l0, s2, l2⟩
theorem open_ask14 {fuel : Nat} {cs : List Value} {x : DataW H × List MemPlace} (h : DataW.trod enc Tryz.prog w base spare held fuel 38 cs = some x) (hz : Szd Tryz.prog 38 x.1) : ∃ wv gv ev dv pv ws pgs es ds ps one two fr ac, cs = [wv, .int .i64 fr, gv, .bool (RtD.on one), .int .i64 (RtD.frame one), .int .i64 (RtD.tag one), .bool (RtD.on two), .int .i64 (RtD.frame two), .int .i64 (RtD.tag two), .int .i64 ac, ev, dv, pv] ∧ Ak14 w wv gv ev dv pv ws pgs es ds ps := by
  obtain ⟨hl, n, hf⟩ := trod_fields Tryz.underlying38 h hz
  rw [cellsOf_sz (show szOf Tryz.prog 38 = some 13 from tb_ok.gsz rfl)] at hl
  match cs, hl with
  | [c0, c1, c2, c3, c4, c5, c6, c7, c8, c9, c10, c11, c12], _ =>
    have s0 : Tryz.prog.cellsOf 31 = 10 := by kernel_rfl
    have s1 : Tryz.prog.cellsOf 35 = 2 := by kernel_rfl
    have s2 : Tryz.prog.cellsOf 36 = 1 := by kernel_rfl
    obtain ⟨_, h0, z0⟩ := hf 0 _ rfl
    obtain ⟨_, h1, z1⟩ := hf 1 _ rfl
    obtain ⟨_, h2, z2⟩ := hf 2 _ rfl
    simp only [List.getElem_toArray, List.getElem_cons_zero, List.getElem_cons_succ, s0, s1, s2, List.drop_zero, List.drop_succ_cons, List.take_succ_cons, List.take_zero] at h0 z0 h1 z1 h2 z2
    obtain ⟨wv, ws, fr, gv, gs, one, two, ac, e0, w0, s0, c0, l0, s2, l2⟩ := open_ask7 h0 z0
    obtain ⟨t, e1, t1, t2, t3, t4, t5⟩ := open_tlb h1 z1
    obtain ⟨pv, ps, e2, s3, _, l3⟩ := open_picks h2 z2
    cases e0; cases e1; cases e2
    exact ⟨_, _, _, _, _, ws, gs, t.es, t.ds, ps, one, two, fr, ac, rfl, w0, s0, c0, s2, t1, ⟨_, _, rfl, t3⟩, t2, s3, Nat.le_trans l0 (by decide), Nat.le_trans l2 (by decide), Nat.le_trans t4 (by decide), Nat.le_trans t5 (by decide), Nat.le_trans l3 (by decide)⟩
end
end Go.Proofs.YtdaenalnmdmflaaGreat
