/- Layer 18 (part): how a partition lies in memory. No program in sight. -/
import Derived.Test.YtdfkcjjbflcafaaGreatPartN
import Derived.Test.YtdfkcjjbflcafaaGreatEngL
namespace Go.Proofs.YtdfkcjjbflcafaaGreat
open Go.RowKit
set_option linter.unusedVariables false
set_option linter.unusedSimpArgs false
theorem rangeAt_cell {w : World} {b o : Nat} {vs : List Value} (h : w.rangeAt b o vs) {k : Nat} {v : Value} (hv : nth vs k = some v) : w.cell? ⟨b, o + k, none⟩ = some v := by
  rw [nth_eq] at hv
  exact h k v (by simpa using hv)
theorem rangeAt_cell0 {w : World} {b o : Nat} {v : Value} {r : List Value} (h : w.rangeAt b o (v :: r)) : w.cell? ⟨b, o, none⟩ = some v := by simpa using h 0 v rfl
theorem Good.range {w0 w : World} {mu : List Nat} {hp : Hp} (h : Good w0 mu hp w) {b o : Nat} {vs : List Value} (hr : w0.rangeAt b o vs) (hm : b ∉ mu) : w.rangeAt b o vs := fun j v hj => h.cell (hr j v hj) hm
/-- A slice's rows, each of so many cells. -/
structure SlAt (w : World) (v : Value) (sz : Nat) (xs : List (List Value)) : Prop where
  is : ∃ p cap, v = .slice p xs.length cap ∧ (xs ≠ [] → ∃ b off, p = some ⟨b, off, none⟩ ∧ ∀ i c, xs[i]? = some c → w.rangeAt b (off + i * sz) c)
  le : xs.length ≤ 281474976710656
theorem SlAt.good {w w' : World} {hp : Hp} {v : Value} {sz : Nat} {xs : List (List Value)} (h : SlAt w v sz xs) (hG : Good w [] hp w') : SlAt w' v sz xs := by
  obtain ⟨⟨p, cap, rfl, hp⟩, hl⟩ := h
  refine ⟨⟨p, cap, rfl, fun hne => ?_⟩, hl⟩
  obtain ⟨b, off, rfl, hr⟩ := hp hne
  exact ⟨b, off, rfl, fun i c hc => hG.range (hr i c hc) (by simp)⟩
theorem Acc.slAt {w0 w : World} {mu : List Nat} {hp ha : Hp} {e sz : Nat} {v : Value} {xs : List (List Value)} (hA : Acc e sz v ha xs) (hG : Good w0 mu hp w) (hm : ∀ b ∈ ha, b ∈ hp) (hle : xs.length ≤ 281474976710656) : SlAt w v sz xs := ⟨hA.rows hG hm, hle⟩
def pgV (x : PgD) : List Value := [.int .i64 x.own, .int .i64 x.wit]
def mpV (x : MpD) : List Value := [.int .i64 x.mid, .int .i64 x.frm]
def stV (x : StD) : List Value := [.int .i64 x.vm, .int .i64 x.cpu]
def inV (x : Int) : List Value := [.int .i64 x]
/-- Where a partition lies. -/
structure PtL where
  pb : Nat
  po : Nat
  pc : Nat
  gb : Nat
  go : Nat
  gc : Nat
  ob : Nat
  oo : Nat
  oc : Nat
  vv : Nat → Value
  mv : Nat → Value
abbrev PtL.pv (L : PtL) (n : Nat) : Value := .slice (some ⟨L.pb, L.po, none⟩) n L.pc
abbrev PtL.gv (L : PtL) (n : Nat) : Value := .slice (some ⟨L.gb, L.go, none⟩) n L.gc
abbrev PtL.ov (L : PtL) (n : Nat) : Value := .slice (some ⟨L.ob, L.oo, none⟩) n L.oc
def I64 (v : Int) : Prop := -9223372036854775808 ≤ v ∧ v ≤ 9223372036854775807
structure PtD.Wf (P : PtD) : Prop where
  pg : ∀ f, f < P.pages.length → I64 (P.pg f).own ∧ I64 (P.pg f).wit
  gs : ∀ i, i < P.guests.length → I64 (P.gs i).first ∧ (∀ x ∈ (P.gs i).vcpus, I64 x) ∧ (∀ x ∈ (P.gs i).maps, I64 x.mid ∧ I64 x.frm)
  st : ∀ c, c < P.on.length → I64 (P.st c).vm ∧ I64 (P.st c).cpu
structure PartV (w : World) (L : PtL) (P : PtD) : Prop where
  pg : ∀ i, i < P.pages.length → w.rangeAt L.pb (L.po + i * 2) [.int .i64 (P.pg i).own, .int .i64 (P.pg i).wit]
  gs : ∀ i, i < P.guests.length → w.rangeAt L.gb (L.go + i * 5) [.bool (P.gs i).live, .bool (P.gs i).dying, .int .i64 (P.gs i).first, L.vv i, L.mv i]
  vc : ∀ i, i < P.guests.length → SlAt w (L.vv i) 1 ((P.gs i).vcpus.map inV)
  mp : ∀ i, i < P.guests.length → SlAt w (L.mv i) 2 ((P.gs i).maps.map mpV)
  st : ∀ i, i < P.on.length → w.rangeAt L.ob (L.oo + i * 2) [.int .i64 (P.st i).vm, .int .i64 (P.st i).cpu]
  wf : P.Wf
theorem PartV.good {w w' : World} {hp : Hp} {L : PtL} {P : PtD} (h : PartV w L P) (hG : Good w [] hp w') : PartV w' L P :=
  ⟨fun i hi => hG.range (h.pg i hi) (by simp), fun i hi => hG.range (h.gs i hi) (by simp), fun i hi => (h.vc i hi).good hG, fun i hi => (h.mp i hi).good hG, fun i hi => hG.range (h.st i hi) (by simp), h.wf⟩
/-- Its lengths are such. -/
structure PtD.Len (P : PtD) : Prop where
  p0 : 24 ≤ P.pages.length
  p1 : P.pages.length ≤ 64
  g4 : P.guests.length = 4
  o0 : 1 ≤ P.on.length
  o1 : P.on.length ≤ 3
/-- A partition behind a pointer. -/
structure PartQ (w : World) (bp : Nat) (L : PtL) (P : PtD) : Prop where
  v : PartV w L P
  n : P.Len
  cp : w.cell? ⟨bp, 0, none⟩ = some (L.pv P.pages.length)
  cg : w.cell? ⟨bp, 1, none⟩ = some (L.gv P.guests.length)
  co : w.cell? ⟨bp, 2, none⟩ = some (L.ov P.on.length)
theorem PartQ.good {w w' : World} {hp : Hp} {bp : Nat} {L : PtL} {P : PtD} (h : PartQ w bp L P) (hG : Good w [] hp w') : PartQ w' bp L P :=
  ⟨h.v.good hG, h.n, hG.cell h.cp (by simp), hG.cell h.cg (by simp), hG.cell h.co (by simp)⟩
section
variable {w : World} {L : PtL} {P : PtD}
theorem PartV.pg0 (h : PartV w L P) {i : Nat} (hi : i < P.pages.length) : w.cell? ⟨L.pb, L.po + i * 2, none⟩ = some (.int .i64 (P.pg i).own) := rangeAt_cell0 (h.pg i hi)
theorem PartV.pg1 (h : PartV w L P) {i : Nat} (hi : i < P.pages.length) : w.cell? ⟨L.pb, L.po + i * 2 + 1, none⟩ = some (.int .i64 (P.pg i).wit) := rangeAt_cell (h.pg i hi) rfl
theorem PartV.st0 (h : PartV w L P) {i : Nat} (hi : i < P.on.length) : w.cell? ⟨L.ob, L.oo + i * 2, none⟩ = some (.int .i64 (P.st i).vm) := rangeAt_cell0 (h.st i hi)
theorem PartV.st1 (h : PartV w L P) {i : Nat} (hi : i < P.on.length) : w.cell? ⟨L.ob, L.oo + i * 2 + 1, none⟩ = some (.int .i64 (P.st i).cpu) := rangeAt_cell (h.st i hi) rfl
theorem PartV.gs0 (h : PartV w L P) {i : Nat} (hi : i < P.guests.length) : w.cell? ⟨L.gb, L.go + i * 5, none⟩ = some (.bool (P.gs i).live) := rangeAt_cell0 (h.gs i hi)
theorem PartV.gs1 (h : PartV w L P) {i : Nat} (hi : i < P.guests.length) : w.cell? ⟨L.gb, L.go + i * 5 + 1, none⟩ = some (.bool (P.gs i).dying) := rangeAt_cell (h.gs i hi) rfl
theorem PartV.gs2 (h : PartV w L P) {i : Nat} (hi : i < P.guests.length) : w.cell? ⟨L.gb, L.go + i * 5 + 2, none⟩ = some (.int .i64 (P.gs i).first) := rangeAt_cell (h.gs i hi) rfl
theorem PartV.gs3 (h : PartV w L P) {i : Nat} (hi : i < P.guests.length) : w.cell? ⟨L.gb, L.go + i * 5 + 3, none⟩ = some (L.vv i) := rangeAt_cell (h.gs i hi) rfl
theorem PartV.gs4 (h : PartV w L P) {i : Nat} (hi : i < P.guests.length) : w.cell? ⟨L.gb, L.go + i * 5 + 4, none⟩ = some (L.mv i) := rangeAt_cell (h.gs i hi) rfl
end
end Go.Proofs.YtdfkcjjbflcafaaGreat
