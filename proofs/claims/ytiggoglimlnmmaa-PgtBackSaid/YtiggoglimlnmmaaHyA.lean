/- Hypervisors as plain data; comparisons of what is the same. -/
import Derived.Test.YtiggoglimlnmmaaTlB
namespace Go.Proofs.Ytiggoglimlnmmaa
open Go.RowKit
set_option linter.unusedVariables false
set_option linter.unusedSimpArgs false
set_option maxRecDepth 20000
/-- Registers. -/
structure RgD where
  x0 : Nat
  x1 : Nat
  x2 : Nat
  x3 : Nat
  x4 : Nat
  x5 : Nat
  x6 : Nat
  x7 : Nat
  pc : Nat
  ttbr : Nat
  sctlr : Nat
  vbar : Nat
  elr : Nat
  esr : Nat
  far : Nat
deriving DecidableEq
def noRg : RgD := ⟨0, 0, 0, 0, 0, 0, 0, 0, 0, 0, 0, 0, 0, 0, 0⟩
instance : Inhabited RgD := ⟨noRg⟩
abbrev rgV (r : RgD) : List Value := [.int .u64 (r.x0 : Int), .int .u64 (r.x1 : Int), .int .u64 (r.x2 : Int), .int .u64 (r.x3 : Int), .int .u64 (r.x4 : Int), .int .u64 (r.x5 : Int), .int .u64 (r.x6 : Int), .int .u64 (r.x7 : Int), .int .u64 (r.pc : Int), .int .u64 (r.ttbr : Int), .int .u64 (r.sctlr : Int), .int .u64 (r.vbar : Int), .int .u64 (r.elr : Int), .int .u64 (r.esr : Int), .int .u64 (r.far : Int)]
theorem eqRg (a b : RgD) : eqLeaves (rgV a) (rgV b) = decide (a = b) := by
  obtain ⟨a0, a1, a2, a3, a4, a5, a6, a7, a8, a9, a10, a11, a12, a13, a14⟩ := a
  obtain ⟨b0, b1, b2, b3, b4, b5, b6, b7, b8, b9, b10, b11, b12, b13, b14⟩ := b
  rw [Bool.eq_iff_iff, decide_eq_true_eq]
  simp [eqLeaves, eqLeaf, Int.ofNat_inj]
/-- A virtual processor. -/
structure VcD where
  r : RgD
  on : Int
deriving DecidableEq
instance : Inhabited VcD := ⟨⟨noRg, 0⟩⟩
abbrev vcV (c : VcD) : List Value := [.int .u64 (c.r.x0 : Int), .int .u64 (c.r.x1 : Int), .int .u64 (c.r.x2 : Int), .int .u64 (c.r.x3 : Int), .int .u64 (c.r.x4 : Int), .int .u64 (c.r.x5 : Int), .int .u64 (c.r.x6 : Int), .int .u64 (c.r.x7 : Int), .int .u64 (c.r.pc : Int), .int .u64 (c.r.ttbr : Int), .int .u64 (c.r.sctlr : Int), .int .u64 (c.r.vbar : Int), .int .u64 (c.r.elr : Int), .int .u64 (c.r.esr : Int), .int .u64 (c.r.far : Int), .int .i64 c.on]
theorem eqVc (a b : VcD) : eqLeaves (vcV a) (vcV b) = decide (a = b) := by
  obtain ⟨⟨a0, a1, a2, a3, a4, a5, a6, a7, a8, a9, a10, a11, a12, a13, a14⟩, x⟩ := a
  obtain ⟨⟨b0, b1, b2, b3, b4, b5, b6, b7, b8, b9, b10, b11, b12, b13, b14⟩, y⟩ := b
  rw [Bool.eq_iff_iff, decide_eq_true_eq]
  simp [eqLeaves, eqLeaf, and_assoc, Int.ofNat_inj]
/-- A processor as it lies. -/
structure CpD where
  r : RgD
  vm : Int
  vc : Int
  t : TlD
instance : Inhabited CpD := ⟨⟨noRg, 0, 0, default⟩⟩
abbrev cpV (c : CpD) : List Value := [.int .u64 (c.r.x0 : Int), .int .u64 (c.r.x1 : Int), .int .u64 (c.r.x2 : Int), .int .u64 (c.r.x3 : Int), .int .u64 (c.r.x4 : Int), .int .u64 (c.r.x5 : Int), .int .u64 (c.r.x6 : Int), .int .u64 (c.r.x7 : Int), .int .u64 (c.r.pc : Int), .int .u64 (c.r.ttbr : Int), .int .u64 (c.r.sctlr : Int), .int .u64 (c.r.vbar : Int), .int .u64 (c.r.elr : Int), .int .u64 (c.r.esr : Int), .int .u64 (c.r.far : Int), .int .i64 c.vm, .int .i64 c.vc, c.t.ev, c.t.dv]
def CpD.core (c : CpD) : RgD × Int × Int × List EnD × List IvD := (c.r, c.vm, c.vc, c.t.es, c.t.ds)
structure CpAt (w : World) (v : Value) (cs : List CpD) : Prop where
  rows : SlAt w v 19 (cs.map cpV)
  en : ∀ c ∈ cs, SlAt w c.t.ev 14 (c.t.es.map enV)
  iv : ∀ c ∈ cs, SlAt w c.t.dv 4 (c.t.ds.map ivV)
theorem CpAt.good {w w' : World} {hp : Hp} {v : Value} {cs : List CpD} (h : CpAt w v cs) (hG : Good w [] hp w') : CpAt w' v cs := ⟨h.rows.good hG, fun t ht => (h.en t ht).good hG, fun t ht => (h.iv t ht).good hG⟩
/-- A machine as it lies. -/
structure VmD where
  live : Bool
  dying : Bool
  vmid : Int
  fs : List Int
  fp : Option Addr
  fc : Nat
  fr : List Int
  rp : Option Addr
  rc : Nat
  vs : List VcD
  vp : Option Addr
  vk : Nat
instance : Inhabited VmD := ⟨⟨false, false, 0, [], none, 0, [], none, 0, [], none, 0⟩⟩
abbrev VmD.fv (m : VmD) : Value := .slice m.fp m.fs.length m.fc
abbrev VmD.rv (m : VmD) : Value := .slice m.rp m.fr.length m.rc
abbrev VmD.vv (m : VmD) : Value := .slice m.vp m.vs.length m.vk
abbrev vmV (m : VmD) : List Value := [.bool m.live, .bool m.dying, .int .i64 m.vmid, m.fv, m.rv, m.vv]
def VmD.core (m : VmD) : Bool × Bool × Int × List Int × List Int × List VcD := (m.live, m.dying, m.vmid, m.fs, m.fr, m.vs)
structure VmAt (w : World) (v : Value) (ms : List VmD) : Prop where
  rows : SlAt w v 6 (ms.map vmV)
  fs : ∀ m ∈ ms, SlAt w m.fv 1 (m.fs.map inV)
  fr : ∀ m ∈ ms, SlAt w m.rv 1 (m.fr.map inV)
  vs : ∀ m ∈ ms, SlAt w m.vv 16 (m.vs.map vcV)
theorem VmAt.good {w w' : World} {hp : Hp} {v : Value} {cs : List VmD} (h : VmAt w v cs) (hG : Good w [] hp w') : VmAt w' v cs := ⟨h.rows.good hG, fun t ht => (h.fs t ht).good hG, fun t ht => (h.fr t ht).good hG, fun t ht => (h.vs t ht).good hG⟩
/-- A hypervisor by its four slices. -/
structure HyAt (w : World) (wv cv vv rv : Value) (ws : List Nat) (cs : List CpD) (vs : List VmD) (rs : List RgD) : Prop where
  w64 : W64 ws
  ws : SlAt w wv 1 (ws.map uV)
  cs : CpAt w cv cs
  vs : VmAt w vv vs
  rs : SlAt w rv 15 (rs.map rgV)
theorem HyAt.good {w w' : World} {hp : Hp} {wv cv vv rv : Value} {ws : List Nat} {cs : List CpD} {vs : List VmD} {rs : List RgD} (h : HyAt w wv cv vv rv ws cs vs rs) (hG : Good w [] hp w') : HyAt w' wv cv vv rv ws cs vs rs := ⟨h.w64, h.ws.good hG, h.cs.good hG, h.vs.good hG, h.rs.good hG⟩
/-- Nothing remembered, nothing said. -/
def cpu0 : CpD := ⟨noRg, 0, 0, ⟨[], [], none, 0, none, 0⟩⟩
def vm0 : VmD := ⟨false, false, 0, [], none, 0, [], none, 0, [], none, 0⟩
theorem slAt_nil (w : World) (sz : Nat) : SlAt w (.slice none 0 0) sz [] := ⟨⟨none, 0, rfl, fun h => absurd rfl h⟩, by simp⟩
theorem CpAt.zero {w : World} {b t C : Nat} (h : w.heap[b]? = some (.cells ((List.replicate C (cpV cpu0)).flatten).toArray t (0, 0))) (hC : C ≤ 1000) : CpAt w (.slice (some ⟨b, 0, none⟩) C C) (List.replicate C cpu0) := by
  refine ⟨?_, fun c hc => ?_, fun c hc => ?_⟩
  · have := lie_rows (w := w) (b := b) (t := t) (cap := C) (sz := 19) (xs := List.replicate C (cpV cpu0)) h (by intro c hc; rw [List.eq_of_mem_replicate hc]; rfl) (by simp; omega)
    simpa using this
  · rw [List.eq_of_mem_replicate hc]; exact slAt_nil _ _
  · rw [List.eq_of_mem_replicate hc]; exact slAt_nil _ _
theorem VmAt.zero {w : World} {b t C : Nat} (h : w.heap[b]? = some (.cells ((List.replicate C (vmV vm0)).flatten).toArray t (0, 0))) (hC : C ≤ 1000) : VmAt w (.slice (some ⟨b, 0, none⟩) C C) (List.replicate C vm0) := by
  refine ⟨?_, fun c hc => ?_, fun c hc => ?_, fun c hc => ?_⟩
  · have := lie_rows (w := w) (b := b) (t := t) (cap := C) (sz := 6) (xs := List.replicate C (vmV vm0)) h (by intro c hc; rw [List.eq_of_mem_replicate hc]; rfl) (by simp; omega)
    simpa using this
  · rw [List.eq_of_mem_replicate hc]; exact slAt_nil _ _
  · rw [List.eq_of_mem_replicate hc]; exact slAt_nil _ _
  · rw [List.eq_of_mem_replicate hc]; exact slAt_nil _ _
theorem rg_zero {w : World} {b t C : Nat} (h : w.heap[b]? = some (.cells ((List.replicate C (rgV noRg)).flatten).toArray t (0, 0))) (hC : C ≤ 1000) : SlAt w (.slice (some ⟨b, 0, none⟩) C C) 15 ((List.replicate C noRg).map rgV) := by
  have := lie_rows (w := w) (b := b) (t := t) (cap := C) (sz := 15) (xs := List.replicate C (rgV noRg)) h (by intro c hc; rw [List.eq_of_mem_replicate hc]; rfl) (by simp; omega)
  simpa using this
theorem core_getD {α β : Type} [Inhabited α] {f : α → β} {xs ys : List α} (h : xs.map f = ys.map f) {k : Nat} (hk : k < xs.length) : f (xs.getD k default) = f (ys.getD k default) := by
  have hl : xs.length = ys.length := by simpa using congrArg List.length h
  have h5 := congrArg (fun l => l[k]?) h
  simp only [List.getElem?_map, List.getElem?_eq_getElem hk, List.getElem?_eq_getElem (show k < ys.length by omega), Option.map_some, Option.some.injEq] at h5
  simp only [List.getD_eq_getElem?_getD, List.getElem?_eq_getElem hk, List.getElem?_eq_getElem (show k < ys.length by omega), Option.getD_some]
  exact h5
attribute [local irreducible] Hy St Ops DH DHF DE1 DE2 DE3 DS DCh
end Go.Proofs.Ytiggoglimlnmmaa
