/- Layers 9, 10: In, TLB, TLBs of the document; slices' search of entries. -/
import Derived.Test.YtiaelhhmlbfkmaaGreatTlA
namespace Go.Proofs.YtiaelhhmlbfkmaaGreat
open Go.RowKit
set_option linter.unusedVariables false
set_option linter.unusedSimpArgs false
set_option maxRecDepth 20000
theorem eqEn (a b : EnD) : eqLeaves (enV a) (enV b) = decide (a = b) := by
  obtain ⟨a1, a2, a3, a4, a5, a6, a7, a8, a9, a10, a11, a12, a13, a14⟩ := a
  obtain ⟨b1, b2, b3, b4, b5, b6, b7, b8, b9, b10, b11, b12, b13, b14⟩ := b
  rw [Bool.eq_iff_iff, decide_eq_true_eq]
  simp [eqLeaves, eqLeaf]
theorem eqIv (a b : IvD) : eqLeaves (ivV a) (ivV b) = decide (a = b) := by
  obtain ⟨a1, a2, a3, a4⟩ := a
  obtain ⟨b1, b2, b3, b4⟩ := b
  rw [Bool.eq_iff_iff, decide_eq_true_eq]
  simp [eqLeaves, eqLeaf]
/-- One, as far as it goes: it may be, and none before is like it. -/
def enOk (es : List EnD) (k : Nat) : Bool := (es.getD k default).may && !(es.take k).any fun t => decide (t = es.getD k default)
def tlbOk (es : List EnD) (ds : List IvD) : Bool := ((List.range es.length).all fun k => enOk es k) && ds.all IvD.may && decide (es.length ≤ 8) && decide (ds.length ≤ 8)
theorem idxI_firstD {α : Type} [Inhabited α] [DecidableEq α] (l : List α) (k : Nat) (hk : k < l.length) : decide (idxI (fun t => decide (t = l.getD k default)) l = (k : Int)) = !(l.take k).any (fun t => decide (t = l.getD k default)) := by
  cases h : (l.take k).any (fun t => decide (t = l.getD k default)) with
  | false =>
    rw [idxI_at hk (by simp) fun j hj => ?_]
    · simp
    · rw [List.any_eq_false] at h
      have h1 := h (l.getD j default) (by
        rw [List.mem_take_iff_getElem]
        exact ⟨j, by omega, by simp [show j < l.length by omega]⟩)
      simpa using h1
  | true =>
    obtain ⟨x, hx, hxe⟩ := List.any_eq_true.1 h
    obtain ⟨j, hj, rfl⟩ := List.mem_take_iff_getElem.1 hx
    have hj1 : j < l.length := by omega
    have hje : decide (l.getD j default = l.getD k default) = true := by
      rw [List.getD_eq_getElem?_getD, List.getElem?_eq_getElem hj1]; exact hxe
    obtain ⟨j0, h0, h1, h2⟩ := idx_least (fun t => decide (t = l.getD k default)) l j hje
    rw [idxI_at (k := j0) (by omega) h1 h2]
    simp; omega
theorem all_upto {p : Nat → Bool} {n : Nat} (h : ∀ j, j < n → p j = true) : (List.range n).all p = true := List.all_eq_true.2 fun j hj => h j (List.mem_range.1 hj)
theorem all_not {p : Nat → Bool} {n k : Nat} (hk : k < n) (h : p k = false) : (List.range n).all p = false := by
  cases hc : (List.range n).all p with
  | false => rfl
  | true => rw [List.all_eq_true.1 hc k (List.mem_range.2 hk)] at h; cases h
theorem tlbOk_e {es : List EnD} {ds : List IvD} {k : Nat} (hk : k < es.length) (h : enOk es k = false) : tlbOk es ds = false := by
  unfold tlbOk
  rw [all_not hk h]; rfl
theorem tlbOk_d {es : List EnD} {ds : List IvD} {k : Nat} (hk : k < ds.length) (h : (ds.getD k default).may = false) : tlbOk es ds = false := by
  have : ds.all IvD.may = false := by
    cases hc : ds.all IvD.may with
    | false => rfl
    | true =>
      rw [List.getD_eq_getElem?_getD, List.getElem?_eq_getElem hk] at h
      have := List.all_eq_true.1 hc _ (List.getElem_mem hk)
      rw [Option.getD_some] at h
      rw [this] at h; cases h
  unfold tlbOk
  rw [this]; simp
theorem all_getD {α : Type} [Inhabited α] {l : List α} {p : α → Bool} (h : ∀ j, j < l.length → p (l.getD j default) = true) : l.all p = true := by
  refine List.all_eq_true.2 fun x hx => ?_
  obtain ⟨j, hj, rfl⟩ := List.getElem_of_mem hx
  have := h j hj
  rwa [List.getD_eq_getElem?_getD, List.getElem?_eq_getElem hj] at this
attribute [local irreducible] Hy St Ops DH DHF
theorem inEn_e {w : World} (a : EnD) (xs : List EnD) (v : Value) (h : SlAt w v 14 (xs.map enV)) :
    Fn Tryz.prog 107 [v, .agg (enV a).toArray].toArray w [] (fun u _ => u = .int .i64 (idxI (fun t => decide (t = a)) xs)) := by
  obtain ⟨q, cap, rfl, hne, hle⟩ := h.opened
  refine enter Tryz.func107 ?_
  refine run ?_
  intro B
  refine run ?_
  refine loopS (σ := Nat) (fun k => [(5, .int .i64 (k : Int))]) (fun _ => [⟨B, (enV a).toArray, 51⟩]) (fun k => k ≤ xs.length ∧ ∀ j, j < k → decide (xs.getD j default = a) = false) (fun k => xs.length - k) 0 ⟨Nat.zero_le _, fun j hj => absurd hj (by omega)⟩ ?_
  rintro k m rfl ⟨hk, hno⟩
  refine run ?_
  refine st_cond _ rfl (fun hc => ?_) (fun hc => ?_)
  · have hlt : k < xs.length := by simpa using hc
    obtain ⟨b, o, rfl⟩ := hne (by intro e; subst e; simp at hlt)
    have hr := h.row hlt
    refine run ?_
    refine drawAll ?_
    refine runD ?_
    refine run ?_
    rw [eqEn]
    refine st_cond _ rfl (fun hp => ?_) (fun hp => ?_)
    · refine run ?_
      refine fin1 ?_
      rw [idxI_at hlt hp hno]
    · refine run ?_
      refine nextS (k + 1) ⟨hlt, fun j hj => ?_⟩
      rcases Nat.lt_succ_iff_lt_or_eq.1 hj with hj | rfl
      · exact hno j hj
      · exact hp
  · have hge : k = xs.length := by simp at hc; omega
    subst hge
    refine run ?_
    refine fin1 ?_
    rw [idxI_none hno]
theorem tlb9_e {w : World} (es : List EnD) (ds : List IvD) (v u : Value) (h : SlAt w v 14 (es.map enV)) (hd : SlAt w u 4 (ds.map ivV)) :
    Fn Tryz.prog 54 [.agg #[v, u]].toArray w [] (fun r _ => r = .bool (tlbOk es ds)) := by
  obtain ⟨q, cap, rfl, hne, hle⟩ := h.opened
  obtain ⟨q2, cap2, rfl, hne2, hle2⟩ := hd.opened
  refine enter Tryz.func54 ?_
  refine run ?_
  intro B
  refine run ?_
  refine loopS (σ := Nat) (fun k => [(3, .int .i64 (k : Int))]) (fun _ => [⟨B, #[.slice q es.length cap, .slice q2 ds.length cap2], 82⟩]) (fun k => k ≤ es.length ∧ ∀ j, j < k → enOk es j = true) (fun k => es.length - k) 0 ⟨Nat.zero_le _, fun j hj => absurd hj (by omega)⟩ ?_
  rintro k m rfl ⟨hk, hno⟩
  refine run ?_
  refine st_cond _ rfl (fun hc => ?_) (fun hc => ?_)
  · have hlt : k < es.length := by simpa using hc
    obtain ⟨b, o, rfl⟩ := hne (by intro e; subst e; simp at hlt)
    have hr := h.row hlt
    refine run ?_
    refine drawAll ?_
    refine runD ?_
    refine callD (fun wc hG => entry_e (es.getD k default) wc) ?_
    refine runDG ?_
    refine callDG (fun hg wc hG => inEn_e (es.getD k default) es _ (h.good hG)) ?_
    refine runDG ?_
    refine run ?_
    have he : (!(es.getD k default).may || !decide (idxI (fun t => decide (t = es.getD k default)) es = (k : Int))) = !enOk es k := by
      rw [idxI_firstD es k hlt]
      unfold enOk
      rw [Bool.not_and]
    rw [he]
    refine st_cond _ rfl (fun hp => ?_) (fun hp => ?_)
    · refine run ?_
      refine fin1 ?_
      rw [tlbOk_e hlt (by simpa using hp)]
    · refine run ?_
      refine nextS (k + 1) ⟨hlt, fun j hj => ?_⟩
      rcases Nat.lt_succ_iff_lt_or_eq.1 hj with hj | rfl
      · exact hno j hj
      · simpa using hp
  · have hge : k = es.length := by simp at hc; omega
    subst hge
    refine run ?_
    refine loopS (σ := Nat) (fun k => [(4, .int .i64 (k : Int))]) (fun _ => [⟨B, #[.slice q es.length cap, .slice q2 ds.length cap2], 82⟩]) (fun k => k ≤ ds.length ∧ ∀ j, j < k → (ds.getD j default).may = true) (fun k => ds.length - k) 0 ⟨Nat.zero_le _, fun j hj => absurd hj (by omega)⟩ ?_
    rintro k m rfl ⟨hk, hno2⟩
    refine run ?_
    refine st_cond _ rfl (fun hc => ?_) (fun hc => ?_)
    · have hlt : k < ds.length := by simpa using hc
      obtain ⟨b, o, rfl⟩ := hne2 (by intro e; subst e; simp at hlt)
      have hr := hd.row hlt
      refine run ?_
      refine callE (fun wc hG => inval_e (ds.getD k default) wc) ?_
      refine run ?_
      refine st_cond _ rfl (fun hp => ?_) (fun hp => ?_)
      · refine run ?_
        refine fin1 ?_
        rw [tlbOk_d hlt (by simpa using hp)]
      · refine run ?_
        refine nextS (k + 1) ⟨hlt, fun j hj => ?_⟩
        rcases Nat.lt_succ_iff_lt_or_eq.1 hj with hj | rfl
        · exact hno2 j hj
        · simpa using hp
    · have hge : k = ds.length := by simp at hc; omega
      subst hge
      refine runG ?_
      refine fin1 ?_
      unfold tlbOk
      rw [all_upto hno, all_getD hno2, show decide ((es.length : Int) ≤ 8) = decide (es.length ≤ 8) by (rw [Bool.eq_iff_iff, decide_eq_true_eq, decide_eq_true_eq]; omega), show decide ((ds.length : Int) ≤ 8) = decide (ds.length ≤ 8) by (rw [Bool.eq_iff_iff, decide_eq_true_eq, decide_eq_true_eq]; omega)]
      rfl
/-- A TLB: its entries and what is due beside it as it lies. -/
structure TlD where
  es : List EnD
  ds : List IvD
  ep : Option Addr
  ec : Nat
  dp : Option Addr
  dc : Nat
instance : Inhabited TlD := ⟨⟨[], [], none, 0, none, 0⟩⟩
abbrev TlD.ev (t : TlD) : Value := .slice t.ep t.es.length t.ec
abbrev TlD.dv (t : TlD) : Value := .slice t.dp t.ds.length t.dc
abbrev tlV (t : TlD) : List Value := [t.ev, t.dv]
/-- Rows of TLBs as they lie. -/
structure TlAt (w : World) (v : Value) (ts : List TlD) : Prop where
  rows : SlAt w v 2 (ts.map tlV)
  en : ∀ t ∈ ts, SlAt w t.ev 14 (t.es.map enV)
  iv : ∀ t ∈ ts, SlAt w t.dv 4 (t.ds.map ivV)
theorem TlAt.good {w w' : World} {hp : Hp} {v : Value} {ts : List TlD} (h : TlAt w v ts) (hG : Good w [] hp w') : TlAt w' v ts := ⟨h.rows.good hG, fun t ht => (h.en t ht).good hG, fun t ht => (h.iv t ht).good hG⟩
theorem getD_mem {α : Type} [Inhabited α] {l : List α} {k : Nat} (h : k < l.length) : l.getD k default ∈ l := by
  rw [List.getD_eq_getElem?_getD, List.getElem?_eq_getElem h]; exact List.getElem_mem h
theorem all_false {α : Type} [Inhabited α] {l : List α} {p : α → Bool} {k : Nat} (hk : k < l.length) (h : p (l.getD k default) = false) : l.all p = false := by
  cases hc : l.all p with
  | false => rfl
  | true => rw [List.all_eq_true.1 hc _ (getD_mem hk)] at h; cases h
end Go.Proofs.YtiaelhhmlbfkmaaGreat
