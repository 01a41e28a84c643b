/- Hypervisors as plain data; comparisons of what is the same. -/
import Derived.Test.YtiaelhhmlbfkmaaGreatTlB
namespace Go.Proofs.YtiaelhhmlbfkmaaGreat
open Go.RowKit
set_option linter.unusedVariables false
set_option linter.unusedSimpArgs false
set_option maxRecDepth 20000
/-- Registers. -/
structure RgD where
  x0 : Nat
  x1 : Nat
  x2 : Nat
  x3 : Nat
  x4 : Nat
  x5 : Nat
  x6 : Nat
  x7 : Nat
  pc : Nat
  ttbr : Nat
  sctlr : Nat
  vbar : Nat
  elr : Nat
  esr : Nat
  far : Nat
deriving DecidableEq
def noRg : RgD := ⟨0, 0, 0, 0, 0, 0, 0, 0, 0, 0, 0, 0, 0, 0, 0⟩
instance : Inhabited RgD := ⟨noRg⟩
abbrev rgV (r : RgD) : List Value := [.int .u64 (r.x0 : Int), .int .u64 (r.x1 : Int), .int .u64 (r.x2 : Int), .int .u64 (r.x3 : Int), .int .u64 (r.x4 : Int), .int .u64 (r.x5 : Int), .int .u64 (r.x6 : Int), .int .u64 (r.x7 : Int), .int .u64 (r.pc : Int), .int .u64 (r.ttbr : Int), .int .u64 (r.sctlr : Int), .int .u64 (r.vbar : Int), .int .u64 (r.elr : Int), .int .u64 (r.esr : Int), .int .u64 (r.far : Int)]
theorem eqRg (a b : RgD) : eqLeaves (rgV a) (rgV b) = decide (a = b) := by
  obtain ⟨a0, a1, a2, a3, a4, a5, a6, a7, a8, a9, a10, a11, a12, a13, a14⟩ := a
  obtain ⟨b0, b1, b2, b3, b4, b5, b6, b7, b8, b9, b10, b11, b12, b13, b14⟩ := b
  rw [Bool.eq_iff_iff, decide_eq_true_eq]
  simp [eqLeaves, eqLeaf, Int.ofNat_inj]
/-- A virtual processor. -/
structure VcD where
  r : RgD
  on : Int
deriving DecidableEq
instance : Inhabited VcD := ⟨⟨noRg, 0⟩⟩
abbrev vcV (c : VcD) : List Value := [.int .u64 (c.r.x0 : Int), .int .u64 (c.r.x1 : Int), .int .u64 (c.r.x2 : Int), .int .u64 (c.r.x3 : Int), .int .u64 (c.r.x4 : Int), .int .u64 (c.r.x5 : Int), .int .u64 (c.r.x6 : Int), .int .u64 (c.r.x7 : Int), .int .u64 (c.r.pc : Int), .int .u64 (c.r.ttbr : Int), .int .u64 (c.r.sctlr : Int), .int .u64 (c.r.vbar : Int), .int .u64 (c.r.elr : Int), .int .u64 (c.r.esr : Int), .int .u64 (c.r.far : Int), .int .i64 c.on]
theorem eqVc (a b : VcD) : eqLeaves (vcV a) (vcV b) = decide (a = b) := by
  obtain ⟨⟨a0, a1, a2, a3, a4, a5, a6, a7, a8, a9, a10, a11, a12, a13, a14⟩, x⟩ := a
  obtain ⟨⟨b0, b1, b2, b3, b4, b5, b6, b7, b8, b9, b10, b11, b12, b13, b14⟩, y⟩ := b
  rw [Bool.eq_iff_iff, decide_eq_true_eq]
  simp [eqLeaves, eqLeaf, and_assoc, Int.ofNat_inj]
/-- A processor as it lies. -/
structure CpD where
  r : RgD
  vm : Int
  vc : Int
  t : TlD
instance : Inhabited CpD := ⟨⟨noRg, 0, 0, default⟩⟩
abbrev cpV (c : CpD) : List Value := [.int .u64 (c.r.x0 : Int), .int .u64 (c.r.x1 : Int), .int .u64 (c.r.x2 : Int), .int .u64 (c.r.x3 : Int), .int .u64 (c.r.x4 : Int), .int .u64 (c.r.x5 : Int), .int .u64 (c.r.x6 : Int), .int .u64 (c.r.x7 : Int), .int .u64 (c.r.pc : Int), .int .u64 (c.r.ttbr : Int), .int .u64 (c.r.sctlr : Int), .int .u64 (c.r.vbar : Int), .int .u64 (c.r.elr : Int), .int .u64 (c.r.esr : Int), .int .u64 (c.r.far : Int), .int .i64 c.vm, .int .i64 c.vc, c.t.ev, c.t.dv]
def CpD.core (c : CpD) : RgD × Int × Int × List EnD × List IvD := (c.r, c.vm, c.vc, c.t.es, c.t.ds)
structure CpAt (w : World) (v : Value) (cs : List CpD) : Prop where
  rows : SlAt w v 19 (cs.map cpV)
  en : ∀ c ∈ cs, SlAt w c.t.ev 14 (c.t.es.map enV)
  iv : ∀ c ∈ cs, SlAt w c.t.dv 4 (c.t.ds.map ivV)
theorem CpAt.good {w w' : World} {hp : Hp} {v : Value} {cs : List CpD} (h : CpAt w v cs) (hG : Good w [] hp w') : CpAt w' v cs := ⟨h.rows.good hG, fun t ht => (h.en t ht).good hG, fun t ht => (h.iv t ht).good hG⟩
/-- A machine as it lies. -/
structure VmD where
  live : Bool
  dying : Bool
  vmid : Int
  fs : List Int
  fp : Option Addr
  fc : Nat
  fr : List Int
  rp : Option Addr
  rc : Nat
  vs : List VcD
  vp : Option Addr
  vk : Nat
instance : Inhabited VmD := ⟨⟨false, false, 0, [], none, 0, [], none, 0, [], none, 0⟩⟩
abbrev VmD.fv (m : VmD) : Value := .slice m.fp m.fs.length m.fc
abbrev VmD.rv (m : VmD) : Value := .slice m.rp m.fr.length m.rc
abbrev VmD.vv (m : VmD) : Value := .slice m.vp m.vs.length m.vk
abbrev vmV (m : VmD) : List Value := [.bool m.live, .bool m.dying, .int .i64 m.vmid, m.fv, m.rv, m.vv]
def VmD.core (m : VmD) : Bool × Bool × Int × List Int × List Int × List VcD := (m.live, m.dying, m.vmid, m.fs, m.fr, m.vs)
structure VmAt (w : World) (v : Value) (ms : List VmD) : Prop where
  rows : SlAt w v 6 (ms.map vmV)
  fs : ∀ m ∈ ms, SlAt w m.fv 1 (m.fs.map inV)
  fr : ∀ m ∈ ms, SlAt w m.rv 1 (m.fr.map inV)
  vs : ∀ m ∈ ms, SlAt w m.vv 16 (m.vs.map vcV)
theorem VmAt.good {w w' : World} {hp : Hp} {v : Value} {cs : List VmD} (h : VmAt w v cs) (hG : Good w [] hp w') : VmAt w' v cs := ⟨h.rows.good hG, fun t ht => (h.fs t ht).good hG, fun t ht => (h.fr t ht).good hG, fun t ht => (h.vs t ht).good hG⟩
/-- A hypervisor by its four slices. -/
structure HyAt (w : World) (wv cv vv rv : Value) (ws : List Nat) (cs : List CpD) (vs : List VmD) (rs : List RgD) : Prop where
  w64 : W64 ws
  ws : SlAt w wv 1 (ws.map uV)
  cs : CpAt w cv cs
  vs : VmAt w vv vs
  rs : SlAt w rv 15 (rs.map rgV)
theorem HyAt.good {w w' : World} {hp : Hp} {wv cv vv rv : Value} {ws : List Nat} {cs : List CpD} {vs : List VmD} {rs : List RgD} (h : HyAt w wv cv vv rv ws cs vs rs) (hG : Good w [] hp w') : HyAt w' wv cv vv rv ws cs vs rs := ⟨h.w64, h.ws.good hG, h.cs.good hG, h.vs.good hG, h.rs.good hG⟩
/-- Nothing remembered, nothing said. -/
def cpu0 : CpD := ⟨noRg, 0, 0, ⟨[], [], none, 0, none, 0⟩⟩
def vm0 : VmD := ⟨false, false, 0, [], none, 0, [], none, 0, [], none, 0⟩
theorem slAt_nil (w : World) (sz : Nat) : SlAt w (.slice none 0 0) sz [] := ⟨⟨none, 0, rfl, fun h => absurd rfl h⟩, by simp⟩
theorem CpAt.zero {w : World} {b t C : Nat} (h : w.heap[b]? = some (.cells ((List.replicate C (cpV cpu0)).flatten).toArray t (0, 0))) (hC : C ≤ 1000) : CpAt w (.slice (some ⟨b, 0, none⟩) C C) (List.replicate C cpu0) := by
  refine ⟨?_, fun c hc => ?_, fun c hc => ?_⟩
  · have := lie_rows (w := w) (b := b) (t := t) (cap := C) (sz := 19) (xs := List.replicate C (cpV cpu0)) h (by intro c hc; rw [List.eq_of_mem_replicate hc]; rfl) (by simp; omega)
    simpa using this
  · rw [List.eq_of_mem_replicate hc]; exact slAt_nil _ _
  · rw [List.eq_of_mem_replicate hc]; exact slAt_nil _ _
theorem VmAt.zero {w : World} {b t C : Nat} (h : w.heap[b]? = some (.cells ((List.replicate C (vmV vm0)).flatten).toArray t (0, 0))) (hC : C ≤ 1000) : VmAt w (.slice (some ⟨b, 0, none⟩) C C) (List.replicate C vm0) := by
  refine ⟨?_, fun c hc => ?_, fun c hc => ?_, fun c hc => ?_⟩
  · have := lie_rows (w := w) (b := b) (t := t) (cap := C) (sz := 6) (xs := List.replicate C (vmV vm0)) h (by intro c hc; rw [List.eq_of_mem_replicate hc]; rfl) (by simp; omega)
    simpa using this
  · rw [List.eq_of_mem_replicate hc]; exact slAt_nil _ _
  · rw [List.eq_of_mem_replicate hc]; exact slAt_nil _ _
  · rw [List.eq_of_mem_replicate hc]; exact slAt_nil _ _
theorem rg_zero {w : World} {b t C : Nat} (h : w.heap[b]? = some (.cells ((List.replicate C (rgV noRg)).flatten).toArray t (0, 0))) (hC : C ≤ 1000) : SlAt w (.slice (some ⟨b, 0, none⟩) C C) 15 ((List.replicate C noRg).map rgV) := by
  have := lie_rows (w := w) (b := b) (t := t) (cap := C) (sz := 15) (xs := List.replicate C (rgV noRg)) h (by intro c hc; rw [List.eq_of_mem_replicate hc]; rfl) (by simp; omega)
  simpa using this
theorem core_getD {α β : Type} [Inhabited α] {f : α → β} {xs ys : List α} (h : xs.map f = ys.map f) {k : Nat} (hk : k < xs.length) : f (xs.getD k default) = f (ys.getD k default) := by
  have hl : xs.length = ys.length := by simpa using congrArg List.length h
  have h5 := congrArg (fun l => l[k]?) h
  simp only [List.getElem?_map, List.getElem?_eq_getElem hk, List.getElem?_eq_getElem (show k < ys.length by omega), Option.map_some, Option.some.injEq] at h5
  simp only [List.getD_eq_getElem?_getD, List.getElem?_eq_getElem hk, List.getElem?_eq_getElem (show k < ys.length by omega), Option.getD_some]
  exact h5
attribute [local irreducible] Hy St Ops DH DHF DE1 DE2 DE3 DS DCh
theorem eqInvals_e {w : World} (xs : List IvD) (u v : Value) (hu : SlAt w u 4 (xs.map ivV)) (hv : SlAt w v 4 (xs.map ivV)) : Fn Tryz.prog 359 [u, v].toArray w [] (fun r _ => r = .bool true) := by
  obtain ⟨q, cap, rfl, hne, hle⟩ := hu.opened
  obtain ⟨q2, cap2, rfl, hne2, _⟩ := hv.opened
  refine enter Tryz.func359 ?_
  refine run ?_
  refine st_cond _ rfl (fun hc => absurd hc (by simp)) (fun hc => ?_)
  refine run ?_
  refine loopS (σ := Nat) (fun k => [(5, .int .i64 (k : Int))]) (fun _ => []) (fun k => k ≤ xs.length) (fun k => xs.length - k) 0 (Nat.zero_le _) ?_
  rintro k m hm hk
  refine run ?_
  refine st_cond _ rfl (fun hc => ?_) (fun hc => ?_)
  · have hlt : k < xs.length := by simp at hc; omega
    obtain ⟨b, o, rfl⟩ := hne (by intro e; subst e; simp at hlt)
    obtain ⟨b2, o2, rfl⟩ := hne2 (by intro e; subst e; simp at hlt)
    have h1 := hu.row hlt
    have h2 := hv.row hlt
    refine run ?_
    refine drawAll ?_
    refine runD ?_
    refine run ?_
    rw [eqIv]
    refine st_cond _ rfl (fun hp => ?_) (fun hp => ?_)
    · simp at hp
    · refine run ?_
      exact nextS (k + 1) hlt
  · refine run ?_
    exact fin1 rfl
theorem eqEntries_e {w : World} (xs : List EnD) (u v : Value) (hu : SlAt w u 14 (xs.map enV)) (hv : SlAt w v 14 (xs.map enV)) : Fn Tryz.prog 358 [u, v].toArray w [] (fun r _ => r = .bool true) := by
  obtain ⟨q, cap, rfl, hne, hle⟩ := hu.opened
  obtain ⟨q2, cap2, rfl, hne2, _⟩ := hv.opened
  refine enter Tryz.func358 ?_
  refine run ?_
  refine st_cond _ rfl (fun hc => absurd hc (by simp)) (fun hc => ?_)
  refine run ?_
  refine loopS (σ := Nat) (fun k => [(5, .int .i64 (k : Int))]) (fun _ => []) (fun k => k ≤ xs.length) (fun k => xs.length - k) 0 (Nat.zero_le _) ?_
  rintro k m hm hk
  refine run ?_
  refine st_cond _ rfl (fun hc => ?_) (fun hc => ?_)
  · have hlt : k < xs.length := by simp at hc; omega
    obtain ⟨b, o, rfl⟩ := hne (by intro e; subst e; simp at hlt)
    obtain ⟨b2, o2, rfl⟩ := hne2 (by intro e; subst e; simp at hlt)
    have h1 := hu.row hlt
    have h2 := hv.row hlt
    refine run ?_
    refine drawAll ?_
    refine runD ?_
    refine run ?_
    rw [eqEn]
    refine st_cond _ rfl (fun hp => ?_) (fun hp => ?_)
    · simp at hp
    · refine run ?_
      exact nextS (k + 1) hlt
  · refine run ?_
    exact fin1 rfl
theorem eqRegs_e {w : World} (xs : List RgD) (u v : Value) (hu : SlAt w u 15 (xs.map rgV)) (hv : SlAt w v 15 (xs.map rgV)) : Fn Tryz.prog 232 [u, v].toArray w [] (fun r _ => r = .bool true) := by
  obtain ⟨q, cap, rfl, hne, hle⟩ := hu.opened
  obtain ⟨q2, cap2, rfl, hne2, _⟩ := hv.opened
  refine enter Tryz.func232 ?_
  refine run ?_
  refine st_cond _ rfl (fun hc => absurd hc (by simp)) (fun hc => ?_)
  refine run ?_
  refine loopS (σ := Nat) (fun k => [(5, .int .i64 (k : Int))]) (fun _ => []) (fun k => k ≤ xs.length) (fun k => xs.length - k) 0 (Nat.zero_le _) ?_
  rintro k m hm hk
  refine run ?_
  refine st_cond _ rfl (fun hc => ?_) (fun hc => ?_)
  · have hlt : k < xs.length := by simp at hc; omega
    obtain ⟨b, o, rfl⟩ := hne (by intro e; subst e; simp at hlt)
    obtain ⟨b2, o2, rfl⟩ := hne2 (by intro e; subst e; simp at hlt)
    have h1 := hu.row hlt
    have h2 := hv.row hlt
    refine run ?_
    refine drawAll ?_
    refine runD ?_
    refine run ?_
    rw [eqRg]
    refine st_cond _ rfl (fun hp => ?_) (fun hp => ?_)
    · simp at hp
    · refine run ?_
      exact nextS (k + 1) hlt
  · refine run ?_
    exact fin1 rfl
theorem eqVcpus_e {w : World} (xs : List VcD) (u v : Value) (hu : SlAt w u 16 (xs.map vcV)) (hv : SlAt w v 16 (xs.map vcV)) : Fn Tryz.prog 348 [u, v].toArray w [] (fun r _ => r = .bool true) := by
  obtain ⟨q, cap, rfl, hne, hle⟩ := hu.opened
  obtain ⟨q2, cap2, rfl, hne2, _⟩ := hv.opened
  refine enter Tryz.func348 ?_
  refine run ?_
  refine st_cond _ rfl (fun hc => absurd hc (by simp)) (fun hc => ?_)
  refine run ?_
  refine loopS (σ := Nat) (fun k => [(5, .int .i64 (k : Int))]) (fun _ => []) (fun k => k ≤ xs.length) (fun k => xs.length - k) 0 (Nat.zero_le _) ?_
  rintro k m hm hk
  refine run ?_
  refine st_cond _ rfl (fun hc => ?_) (fun hc => ?_)
  · have hlt : k < xs.length := by simp at hc; omega
    obtain ⟨b, o, rfl⟩ := hne (by intro e; subst e; simp at hlt)
    obtain ⟨b2, o2, rfl⟩ := hne2 (by intro e; subst e; simp at hlt)
    have h1 := hu.row hlt
    have h2 := hv.row hlt
    refine run ?_
    refine drawAll ?_
    refine runD ?_
    refine run ?_
    rw [eqVc]
    refine st_cond _ rfl (fun hp => ?_) (fun hp => ?_)
    · simp at hp
    · refine run ?_
      exact nextS (k + 1) hlt
  · refine run ?_
    exact fin1 rfl
theorem eqTLB_e {w : World} (a b : TlD) (he : a.es = b.es) (hd : a.ds = b.ds) (h1 : SlAt w a.ev 14 (a.es.map enV)) (h2 : SlAt w a.dv 4 (a.ds.map ivV)) (h3 : SlAt w b.ev 14 (b.es.map enV)) (h4 : SlAt w b.dv 4 (b.ds.map ivV)) : Fn Tryz.prog 347 [.agg (tlV a).toArray, .agg (tlV b).toArray].toArray w [] (fun r _ => r = .bool true) := by
  obtain ⟨es, ds, ep, ec, dp, dc⟩ := a
  obtain ⟨es2, ds2, ep2, ec2, dp2, dc2⟩ := b
  dsimp only at he hd
  subst he hd
  refine enter Tryz.func347 ?_
  refine run ?_
  intro B C
  refine runG ?_
  refine callE (fun wc hG => eqEntries_e es _ _ (h1.good hG) (h3.good hG)) ?_
  refine runG ?_
  refine callEG (fun _ wc hG => eqInvals_e ds _ _ (h2.good hG) (h4.good hG)) ?_
  refine runG ?_
  exact fin1 rfl
theorem eqCPU_e {w : World} (a b : CpD) (h : a.core = b.core) (h1 : SlAt w a.t.ev 14 (a.t.es.map enV)) (h2 : SlAt w a.t.dv 4 (a.t.ds.map ivV)) (h3 : SlAt w b.t.ev 14 (b.t.es.map enV)) (h4 : SlAt w b.t.dv 4 (b.t.ds.map ivV)) : Fn Tryz.prog 309 [.agg (cpV a).toArray, .agg (cpV b).toArray].toArray w [] (fun r _ => r = .bool true) := by
  simp only [CpD.core, Prod.mk.injEq] at h
  obtain ⟨e1, e2, e3, he, hd⟩ := h
  refine enter Tryz.func309 ?_
  refine run ?_
  intro B C
  refine runG ?_
  refine callEG (fun _ wc hG => eqTLB_e a.t b.t he hd (h1.good hG) (h2.good hG) (h3.good hG) (h4.good hG)) ?_
  refine runG ?_
  refine fin1 ?_
  have hr : eqLeaves (rgV a.r) (rgV b.r) = true := by rw [eqRg, e1]; simp
  simp only [hr, e2, e3]
  simp
theorem eqCPUs_e {w : World} (xs ys : List CpD) (u v : Value) (hcm : xs.map CpD.core = ys.map CpD.core) (h1 : CpAt w u xs) (h2 : CpAt w v ys) : Fn Tryz.prog 230 [u, v].toArray w [] (fun r _ => r = .bool true) := by
  have hl : xs.length = ys.length := by simpa using congrArg List.length hcm
  obtain ⟨q, cap, rfl, hne, hle⟩ := h1.rows.opened
  obtain ⟨q2, cap2, rfl, hne2, _⟩ := h2.rows.opened
  refine enter Tryz.func230 ?_
  refine run ?_
  refine st_cond _ rfl (fun hc => absurd hc (by simp [hl])) (fun hc => ?_)
  refine run ?_
  refine loopS (σ := Nat) (fun k => [(5, .int .i64 (k : Int))]) (fun _ => []) (fun k => k ≤ xs.length) (fun k => xs.length - k) 0 (Nat.zero_le _) ?_
  rintro k m hm hk
  refine run ?_
  refine st_cond _ rfl (fun hc => ?_) (fun hc => ?_)
  · have hlt : k < xs.length := by simp at hc; omega
    obtain ⟨b, o, rfl⟩ := hne (by intro e; subst e; simp at hlt)
    obtain ⟨b2, o2, rfl⟩ := hne2 (by intro e; rw [e] at hl; simp only [List.length_nil] at hl; omega)
    have hr1 := h1.rows.row hlt
    have hr2 := h2.rows.row (show k < ys.length by omega)
    have hcc := core_getD hcm hlt
    have p0x := h1.en _ (getD_mem hlt)
    have q0x := h2.en _ (getD_mem (show k < ys.length by omega))
    have p1x := h1.iv _ (getD_mem hlt)
    have q1x := h2.iv _ (getD_mem (show k < ys.length by omega))
    generalize xs.getD k default = a at *
    generalize ys.getD k default = c at *
    refine run ?_
    refine drawAll ?_
    refine runD ?_
    refine callD (fun wc hG => eqCPU_e a c hcc (p0x.good hG) (p1x.good hG) (q0x.good hG) (q1x.good hG)) ?_
    refine runD ?_
    refine run ?_
    refine st_cond _ rfl (fun hp => ?_) (fun hp => ?_)
    · simp at hp
    · refine run ?_
      exact nextS (k + 1) hlt
  · refine run ?_
    exact fin1 rfl
theorem eqVM_e {w : World} (a b : VmD) (h : a.core = b.core) (h1 : SlAt w a.fv 1 (a.fs.map inV)) (h2 : SlAt w a.rv 1 (a.fr.map inV)) (h3 : SlAt w a.vv 16 (a.vs.map vcV)) (g1 : SlAt w b.fv 1 (b.fs.map inV)) (g2 : SlAt w b.rv 1 (b.fr.map inV)) (g3 : SlAt w b.vv 16 (b.vs.map vcV)) : Fn Tryz.prog 310 [.agg (vmV a).toArray, .agg (vmV b).toArray].toArray w [] (fun r _ => r = .bool true) := by
  simp only [VmD.core, Prod.mk.injEq] at h
  obtain ⟨e1, e2, e3, e4, e5, e6⟩ := h
  rw [← e4] at g1
  rw [← e5] at g2
  rw [← e6] at g3
  refine enter Tryz.func310 ?_
  refine run ?_
  intro B C
  refine runG ?_
  refine callEG (fun _ wc hG => eqNumbers_e a.fs _ _ (h1.good hG) (g1.good hG)) ?_
  refine runG ?_
  refine callEG (fun _ wc hG => eqNumbers_e a.fr _ _ (h2.good hG) (g2.good hG)) ?_
  refine runG ?_
  refine callEG (fun _ wc hG => eqVcpus_e a.vs _ _ (h3.good hG) (g3.good hG)) ?_
  refine runG ?_
  refine fin1 ?_
  simp [e1, e2, e3]
theorem eqVMs_e {w : World} (xs ys : List VmD) (u v : Value) (hcm : xs.map VmD.core = ys.map VmD.core) (h1 : VmAt w u xs) (h2 : VmAt w v ys) : Fn Tryz.prog 231 [u, v].toArray w [] (fun r _ => r = .bool true) := by
  have hl : xs.length = ys.length := by simpa using congrArg List.length hcm
  obtain ⟨q, cap, rfl, hne, hle⟩ := h1.rows.opened
  obtain ⟨q2, cap2, rfl, hne2, _⟩ := h2.rows.opened
  refine enter Tryz.func231 ?_
  refine run ?_
  refine st_cond _ rfl (fun hc => absurd hc (by simp [hl])) (fun hc => ?_)
  refine run ?_
  refine loopS (σ := Nat) (fun k => [(5, .int .i64 (k : Int))]) (fun _ => []) (fun k => k ≤ xs.length) (fun k => xs.length - k) 0 (Nat.zero_le _) ?_
  rintro k m hm hk
  refine run ?_
  refine st_cond _ rfl (fun hc => ?_) (fun hc => ?_)
  · have hlt : k < xs.length := by simp at hc; omega
    obtain ⟨b, o, rfl⟩ := hne (by intro e; subst e; simp at hlt)
    obtain ⟨b2, o2, rfl⟩ := hne2 (by intro e; rw [e] at hl; simp only [List.length_nil] at hl; omega)
    have hr1 := h1.rows.row hlt
    have hr2 := h2.rows.row (show k < ys.length by omega)
    have hcc := core_getD hcm hlt
    have p0x := h1.fs _ (getD_mem hlt)
    have q0x := h2.fs _ (getD_mem (show k < ys.length by omega))
    have p1x := h1.fr _ (getD_mem hlt)
    have q1x := h2.fr _ (getD_mem (show k < ys.length by omega))
    have p2x := h1.vs _ (getD_mem hlt)
    have q2x := h2.vs _ (getD_mem (show k < ys.length by omega))
    generalize xs.getD k default = a at *
    generalize ys.getD k default = c at *
    refine run ?_
    refine drawAll ?_
    refine runD ?_
    refine callD (fun wc hG => eqVM_e a c hcc (p0x.good hG) (p1x.good hG) (p2x.good hG) (q0x.good hG) (q1x.good hG) (q2x.good hG)) ?_
    refine runD ?_
    refine run ?_
    refine st_cond _ rfl (fun hp => ?_) (fun hp => ?_)
    · simp at hp
    · refine run ?_
      exact nextS (k + 1) hlt
  · refine run ?_
    exact fin1 rfl
theorem eqHyp_e {w : World} (ws : List Nat) (c1 c2 : List CpD) (m1 m2 : List VmD) (rs : List RgD) (wv1 wv2 cv1 cv2 mv1 mv2 rv1 rv2 : Value) (hc : c1.map CpD.core = c2.map CpD.core) (hm : m1.map VmD.core = m2.map VmD.core) (hw1 : SlAt w wv1 1 (ws.map uV)) (hw2 : SlAt w wv2 1 (ws.map uV)) (hc1 : CpAt w cv1 c1) (hc2 : CpAt w cv2 c2) (hm1 : VmAt w mv1 m1) (hm2 : VmAt w mv2 m2) (hr1 : SlAt w rv1 15 (rs.map rgV)) (hr2 : SlAt w rv2 15 (rs.map rgV)) :
    Fn Tryz.prog 141 [.agg #[wv1, cv1, mv1, rv1], .agg #[wv2, cv2, mv2, rv2]].toArray w [] (fun r _ => r = .bool true) := by
  have hw1' := hw1
  have hw2' := hw2
  have hc1' := hc1
  have hc2' := hc2
  have hm1' := hm1
  have hm2' := hm2
  have hr1' := hr1
  have hr2' := hr2
  obtain ⟨_, _, rfl, _⟩ := hw1.opened
  obtain ⟨_, _, rfl, _⟩ := hw2.opened
  obtain ⟨_, _, rfl, _⟩ := hc1.rows.opened
  obtain ⟨_, _, rfl, _⟩ := hc2.rows.opened
  obtain ⟨_, _, rfl, _⟩ := hm1.rows.opened
  obtain ⟨_, _, rfl, _⟩ := hm2.rows.opened
  obtain ⟨_, _, rfl, _⟩ := hr1.opened
  obtain ⟨_, _, rfl, _⟩ := hr2.opened
  refine enter Tryz.func141 ?_
  refine run ?_
  intro B C
  refine runG ?_
  refine callE (fun wc hG => eqMem_e ws _ _ (hw1'.good hG) (hw2'.good hG)) ?_
  refine runG ?_
  refine callEG (fun _ wc hG => eqCPUs_e c1 c2 _ _ hc (hc1'.good hG) (hc2'.good hG)) ?_
  refine runG ?_
  refine callEG (fun _ wc hG => eqVMs_e m1 m2 _ _ hm (hm1'.good hG) (hm2'.good hG)) ?_
  refine runG ?_
  refine callEG (fun _ wc hG => eqRegs_e rs _ _ (hr1'.good hG) (hr2'.good hG)) ?_
  refine runG ?_
  refine fin1 rfl
end Go.Proofs.YtiaelhhmlbfkmaaGreat
