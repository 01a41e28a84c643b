/- Texts of one's own, merged: the engine, what the functions do, plain laws. -/
import Derived.Test.YtdaenalnmdmflaaGreatAccP3
namespace Go.Proofs.YtdaenalnmdmflaaGreat
open Go.RowKit
set_option linter.unusedVariables false
set_option linter.unusedSimpArgs false
set_option maxRecDepth 20000
theorem eqEn (a b : EnD) : eqLeaves (enV a) (enV b) = decide (a = b) := by
  obtain ⟨a1, a2, a3, a4, a5, a6, a7, a8, a9, a10, a11, a12, a13, a14⟩ := a
  obtain ⟨b1, b2, b3, b4, b5, b6, b7, b8, b9, b10, b11, b12, b13, b14⟩ := b
  rw [Bool.eq_iff_iff, decide_eq_true_eq]
  simp [eqLeaves, eqLeaf]
theorem eqIv (a b : IvD) : eqLeaves (ivV a) (ivV b) = decide (a = b) := by
  obtain ⟨a1, a2, a3, a4⟩ := a
  obtain ⟨b1, b2, b3, b4⟩ := b
  rw [Bool.eq_iff_iff, decide_eq_true_eq]
  simp [eqLeaves, eqLeaf]
def enOk (es : List EnD) (k : Nat) : Bool := (es.getD k default).may && !(es.take k).any fun t => decide (t = es.getD k default)
def tlbOk (es : List EnD) (ds : List IvD) : Bool := ((List.range es.length).all fun k => enOk es k) && ds.all IvD.may && decide (es.length ≤ 8) && decide (ds.length ≤ 8)
theorem idxI_firstD {α : Type} [Inhabited α] [DecidableEq α] (l : List α) (k : Nat) (hk : k < l.length) : decide (idxI (fun t => decide (t = l.getD k default)) l = (k : Int)) = !(l.take k).any (fun t => decide (t = l.getD k default)) := by
  cases h : (l.take k).any (fun t => decide (t = l.getD k default)) with
  | false =>
    rw [idxI_at hk (by simp) fun j hj => ?_]
    · simp
    · rw [List.any_eq_false] at h
      have h1 := h (l.getD j default) (by
        rw [List.mem_take_iff_getElem]
        exact ⟨j, by omega, by simp [show j < l.length by omega]⟩)
      simpa using h1
  | true =>
    obtain ⟨x, hx, hxe⟩ := List.any_eq_true.1 h
    obtain ⟨j, hj, rfl⟩ := List.mem_take_iff_getElem.1 hx
    have hj1 : j < l.length := by omega
    have hje : decide (l.getD j default = l.getD k default) = true := by
      rw [List.getD_eq_getElem?_getD, List.getElem?_eq_getElem hj1]; exact hxe
    obtain ⟨j0, h0, h1, h2⟩ := idx_least (fun t => decide (t = l.getD k default)) l j hje
    rw [idxI_at (k := j0) (by omega) h1 h2]
    simp; omega
theorem all_upto {p : Nat → Bool} {n : Nat} (h : ∀ j, j < n → p j = true) : (List.range n).all p = true := List.all_eq_true.2 fun j hj => h j (List.mem_range.1 hj)
theorem all_not {p : Nat → Bool} {n k : Nat} (hk : k < n) (h : p k = false) : (List.range n).all p = false := by
  cases hc : (List.range n).all p with
  | false => rfl
  | true => rw [List.all_eq_true.1 hc k (List.mem_range.2 hk)] at h; cases h
theorem tlbOk_e {es : List EnD} {ds : List IvD} {k : Nat} (hk : k < es.length) (h : enOk es k = false) : tlbOk es ds = false := by
  unfold tlbOk
  rw [all_not hk h]; rfl
theorem tlbOk_d {es : List EnD} {ds : List IvD} {k : Nat} (hk : k < ds.length) (h : (ds.getD k default).may = false) : tlbOk es ds = false := by
  have : ds.all IvD.may = false := by
    cases hc : ds.all IvD.may with
    | false => rfl
    | true =>
      rw [List.getD_eq_getElem?_getD, List.getElem?_eq_getElem hk] at h
      have := List.all_eq_true.1 hc _ (List.getElem_mem hk)
      rw [Option.getD_some] at h
      rw [this] at h; cases h
  unfold tlbOk
  rw [this]; simp
theorem all_getD {α : Type} [Inhabited α] {l : List α} {p : α → Bool} (h : ∀ j, j < l.length → p (l.getD j default) = true) : l.all p = true := by
  refine List.all_eq_true.2 fun x hx => ?_
  obtain ⟨j, hj, rfl⟩ := List.getElem_of_mem hx
  have := h j hj
  rwa [List.getD_eq_getElem?_getD, List.getElem?_eq_getElem hj] at this
attribute [local irreducible] Hy St Ops DH DHF
theorem inEn_e {w : World} (a : EnD) (xs : List EnD) (v : Value) (h : SlAt w v 14 (xs.map enV)) :
    Fn Tryz.prog 50 [v, .agg (enV a).toArray].toArray w [] (fun u _ => u = .int .i64 (idxI (fun t => decide (t = a)) xs)) := by
  obtain ⟨q, cap, rfl, hne, hle⟩ := h.opened
  refine enter Tryz.func50 ?_
  refine run ?_
  intro B
  refine run ?_
  refine loopS (σ := Nat) (fun k => [(5, .int .i64 (k : Int))]) (fun _ => [⟨B, (enV a).toArray, 88⟩]) (fun k => k ≤ xs.length ∧ ∀ j, j < k → decide (xs.getD j default = a) = false) (fun k => xs.length - k) 0 ⟨Nat.zero_le _, fun j hj => absurd hj (by omega)⟩ ?_
  rintro k m rfl ⟨hk, hno⟩
  refine run ?_
  refine st_cond _ rfl (fun hc => ?_) (fun hc => ?_)
  · have hlt : k < xs.length := by simpa using hc
    obtain ⟨b, o, rfl⟩ := hne (by intro e; subst e; simp at hlt)
    have hr := h.row hlt
    refine run ?_
    refine drawAll ?_
    refine runD ?_
    refine run ?_
    rw [eqEn]
    refine st_cond _ rfl (fun hp => ?_) (fun hp => ?_)
    · refine run ?_
      refine fin1 ?_
      rw [idxI_at hlt hp hno]
    · refine run ?_
      refine nextS (k + 1) ⟨hlt, fun j hj => ?_⟩
      rcases Nat.lt_succ_iff_lt_or_eq.1 hj with hj | rfl
      · exact hno j hj
      · exact hp
  · have hge : k = xs.length := by simp at hc; omega
    subst hge
    refine run ?_
    refine fin1 ?_
    rw [idxI_none hno]
theorem tlb9_e {w : World} (es : List EnD) (ds : List IvD) (v u : Value) (h : SlAt w v 14 (es.map enV)) (hd : SlAt w u 4 (ds.map ivV)) :
    Fn Tryz.prog 23 [.agg #[v, u]].toArray w [] (fun r _ => r = .bool (tlbOk es ds)) := by
  obtain ⟨q, cap, rfl, hne, hle⟩ := h.opened
  obtain ⟨q2, cap2, rfl, hne2, hle2⟩ := hd.opened
  refine enter Tryz.func23 ?_
  refine run ?_
  intro B
  refine run ?_
  refine loopS (σ := Nat) (fun k => [(3, .int .i64 (k : Int))]) (fun _ => [⟨B, #[.slice q es.length cap, .slice q2 ds.length cap2], 35⟩]) (fun k => k ≤ es.length ∧ ∀ j, j < k → enOk es j = true) (fun k => es.length - k) 0 ⟨Nat.zero_le _, fun j hj => absurd hj (by omega)⟩ ?_
  rintro k m rfl ⟨hk, hno⟩
  refine run ?_
  refine st_cond _ rfl (fun hc => ?_) (fun hc => ?_)
  · have hlt : k < es.length := by simpa using hc
    obtain ⟨b, o, rfl⟩ := hne (by intro e; subst e; simp at hlt)
    have hr := h.row hlt
    refine run ?_
    refine drawAll ?_
    refine runD ?_
    refine callD (fun wc hG => entry_e (es.getD k default) wc) ?_
    refine runDG ?_
    refine callDG (fun hg wc hG => inEn_e (es.getD k default) es _ (h.good hG)) ?_
    refine runDG ?_
    refine run ?_
    have he : (!(es.getD k default).may || !decide (idxI (fun t => decide (t = es.getD k default)) es = (k : Int))) = !enOk es k := by
      rw [idxI_firstD es k hlt]
      unfold enOk
      rw [Bool.not_and]
    rw [he]
    refine st_cond _ rfl (fun hp => ?_) (fun hp => ?_)
    · refine run ?_
      refine fin1 ?_
      rw [tlbOk_e hlt (by simpa using hp)]
    · refine run ?_
      refine nextS (k + 1) ⟨hlt, fun j hj => ?_⟩
      rcases Nat.lt_succ_iff_lt_or_eq.1 hj with hj | rfl
      · exact hno j hj
      · simpa using hp
  · have hge : k = es.length := by simp at hc; omega
    subst hge
    refine run ?_
    refine loopS (σ := Nat) (fun k => [(4, .int .i64 (k : Int))]) (fun _ => [⟨B, #[.slice q es.length cap, .slice q2 ds.length cap2], 35⟩]) (fun k => k ≤ ds.length ∧ ∀ j, j < k → (ds.getD j default).may = true) (fun k => ds.length - k) 0 ⟨Nat.zero_le _, fun j hj => absurd hj (by omega)⟩ ?_
    rintro k m rfl ⟨hk, hno2⟩
    refine run ?_
    refine st_cond _ rfl (fun hc => ?_) (fun hc => ?_)
    · have hlt : k < ds.length := by simpa using hc
      obtain ⟨b, o, rfl⟩ := hne2 (by intro e; subst e; simp at hlt)
      have hr := hd.row hlt
      refine run ?_
      refine callE (fun wc hG => inval_e (ds.getD k default) wc) ?_
      refine run ?_
      refine st_cond _ rfl (fun hp => ?_) (fun hp => ?_)
      · refine run ?_
        refine fin1 ?_
        rw [tlbOk_d hlt (by simpa using hp)]
      · refine run ?_
        refine nextS (k + 1) ⟨hlt, fun j hj => ?_⟩
        rcases Nat.lt_succ_iff_lt_or_eq.1 hj with hj | rfl
        · exact hno2 j hj
        · simpa using hp
    · have hge : k = ds.length := by simp at hc; omega
      subst hge
      refine runG ?_
      refine fin1 ?_
      unfold tlbOk
      rw [all_upto hno, all_getD hno2, show decide ((es.length : Int) ≤ 8) = decide (es.length ≤ 8) by (rw [Bool.eq_iff_iff, decide_eq_true_eq, decide_eq_true_eq]; omega), show decide ((ds.length : Int) ≤ 8) = decide (ds.length ≤ 8) by (rw [Bool.eq_iff_iff, decide_eq_true_eq, decide_eq_true_eq]; omega)]
      rfl
structure TlD where
  es : List EnD
  ds : List IvD
  ep : Option Addr
  ec : Nat
  dp : Option Addr
  dc : Nat
instance : Inhabited TlD := ⟨⟨[], [], none, 0, none, 0⟩⟩
abbrev TlD.ev (t : TlD) : Value := .slice t.ep t.es.length t.ec
abbrev TlD.dv (t : TlD) : Value := .slice t.dp t.ds.length t.dc
abbrev tlV (t : TlD) : List Value := [t.ev, t.dv]
structure TlAt (w : World) (v : Value) (ts : List TlD) : Prop where
  rows : SlAt w v 2 (ts.map tlV)
  en : ∀ t ∈ ts, SlAt w t.ev 14 (t.es.map enV)
  iv : ∀ t ∈ ts, SlAt w t.dv 4 (t.ds.map ivV)
theorem TlAt.good {w w' : World} {hp : Hp} {v : Value} {ts : List TlD} (h : TlAt w v ts) (hG : Good w [] hp w') : TlAt w' v ts := ⟨h.rows.good hG, fun t ht => (h.en t ht).good hG, fun t ht => (h.iv t ht).good hG⟩
theorem getD_mem {α : Type} [Inhabited α] {l : List α} {k : Nat} (h : k < l.length) : l.getD k default ∈ l := by
  rw [List.getD_eq_getElem?_getD, List.getElem?_eq_getElem h]; exact List.getElem_mem h
end Go.Proofs.YtdaenalnmdmflaaGreat
namespace Go.Proofs.YtdaenalnmdmflaaGreat
open Go.RowKit
set_option linter.unusedVariables false
set_option linter.unusedSimpArgs false
set_option maxRecDepth 20000
attribute [local irreducible] Hy St Ops DH DHF
structure HtD where
  frame : Int
  mid : Int
  r : Bool
  w : Bool
  x : Bool
  af : Bool
  ng : Bool
  soft : Int
  level : Int
deriving DecidableEq
def noHt : HtD := ⟨0, 0, false, false, false, false, false, 0, 0⟩
instance : Inhabited HtD := ⟨noHt⟩
abbrev htV (h : HtD) : Value := .agg #[.int .i64 h.frame, .int .i64 h.mid, .bool h.r, .bool h.w, .bool h.x, .bool h.af, .bool h.ng, .int .i64 h.soft, .int .i64 h.level]
structure FtD where
  kind : Int
  stage : Int
  level : Int
  walk : Bool
  page : Int
deriving DecidableEq
def noFt : FtD := ⟨0, 0, 0, false, 0⟩
instance : Inhabited FtD := ⟨noFt⟩
abbrev ftV (f : FtD) : Value := .agg #[.int .i64 f.kind, .int .i64 f.stage, .int .i64 f.level, .bool f.walk, .int .i64 f.page]
def mayA (r w x : Bool) (acc : Int) : Bool := decide (acc = 0) && r || decide (acc = 1) && w || decide (acc = 2) && x
def flagL (r w x af : Bool) (acc stage level page : Int) : FtD := bif !af then ⟨3, stage, level, false, page⟩ else bif !mayA r w x acc then ⟨4, stage, level, false, page⟩ else noFt
structure WlD where
  h : HtD
  f : FtD
  rd : List Int
deriving Inhabited
def dSt (ws : List Nat) (stage : Int) (p level : Nat) : DsD := ofL stage level (ws.getD p 0)
theorem dSt_may (ws : List Nat) (stage : Int) (p level : Nat) : (dSt ws stage p level).may stage level = true := ofL_may _ _ _
def endL (n : Nat) (stage : Int) (page level : Nat) (d : DsD) (rd : List Int) : WlD :=
  bif decide (d.kind = 0) then ⟨noHt, ⟨2, stage, level, false, page⟩, rd⟩
  else bif hasF n (d.frame + ((page % coversN level : Nat) : Int)) then ⟨⟨d.frame + ((page % coversN level : Nat) : Int), 0, d.r, d.w, d.x, d.af, d.ng, d.soft, level⟩, noFt, rd⟩
  else ⟨noHt, ⟨1, stage, level, false, page⟩, rd⟩
def wlk (ws : List Nat) (stage : Int) (page : Nat) : Nat → Nat → Int → List Int → WlD
  | 0, level, f, rd => ⟨noHt, ⟨2, stage, 3, false, page⟩, rd⟩
  | k + 1, level, f, rd => bif hasF ws.length f then
      (bif decide ((dSt ws stage (atN f level page) level).kind = 1) then wlk ws stage page k (level + 1) (dSt ws stage (atN f level page) level).frame (rd ++ [f])
       else endL ws.length stage page level (dSt ws stage (atN f level page) level) (rd ++ [f]))
    else ⟨noHt, ⟨1, stage, level, false, page⟩, rd⟩
def walk5 (ws : List Nat) (stage frame : Int) (page : Nat) : WlD := wlk ws stage page 4 0 frame []
def midG (W : WlD) (mid : Nat) (acc : Int) : FtD := bif decide (W.f.kind = 0) then flagL W.h.r W.h.w W.h.x W.h.af acc 2 W.h.level mid else W.f
def midE (W : WlD) (mid : Nat) (acc : Int) : WlD := bif !decide ((midG W mid acc).kind = 0) then ⟨noHt, midG W mid acc, W.rd⟩ else ⟨{ W.h with mid := mid }, midG W mid acc, W.rd⟩
def midL (ws : List Nat) (on : Bool) (frame : Int) (mid : Nat) (acc : Int) : WlD :=
  bif !on then (bif hasF ws.length mid then ⟨⟨mid, mid, true, true, true, true, false, 0, 0⟩, noFt, []⟩ else ⟨noHt, ⟨1, 2, 0, false, mid⟩, []⟩)
  else midE (walk5 ws 2 frame mid) mid acc
theorem rMayA_e (r w x af ng : Bool) (soft acc : Int) (W : World) : Fn Tryz.prog 70 [.agg #[.bool r, .bool w, .bool x, .bool af, .bool ng, .int .i64 soft], .int .i64 acc].toArray W [] (fun u _ => u = .bool (mayA r w x acc)) := by
  refine enter Tryz.func70 ?_
  refine runG ?_
  intro B
  refine fin1 ?_
  simp only [mayA]
theorem rFlag_e (r w x af ng : Bool) (soft acc stage level page : Int) (W : World) : Fn Tryz.prog 47 [.agg #[.bool r, .bool w, .bool x, .bool af, .bool ng, .int .i64 soft], .int .i64 acc, .int .i64 stage, .int .i64 level, .int .i64 page].toArray W [] (fun u _ => u = ftV (flagL r w x af acc stage level page)) := by
  refine enter Tryz.func47 ?_
  refine run ?_
  intro B C D
  refine st_cond _ rfl (fun hc => ?_) (fun hc => ?_)
  · refine run ?_
    refine finA ?_
    simp only [flagL, hc, cond_true]
  refine run ?_
  refine callE (fun wc hG => rMayA_e r w x af ng soft acc wc) ?_
  refine run ?_
  refine st_cond _ rfl (fun hc2 => ?_) (fun hc2 => ?_)
  · refine run ?_
    refine finA ?_
    simp only [flagL, hc, hc2, cond_true, cond_false]
  refine run ?_
  refine finA ?_
  simp only [flagL, hc, hc2, cond_true, cond_false]
  rfl
theorem rWalk_e (ws : List Nat) (hw : W64 ws) {w : World} {v : Value} (h : SlAt w v 1 (ws.map uV)) (hn : ws.length < 1000000) (stage : Int) (hs : stage = 1 ∨ stage = 2) (frame : Int) (h0 : 0 ≤ frame) (page : Nat) (hp : page ≤ 4095) : Fn Tryz.prog 73 [.agg #[v], .int .i64 stage, .int .i64 frame, .int .i64 (page : Int)].toArray w [] (fun u hn => ∃ v2 h2, u = .tuple #[htV (walk5 ws stage frame page).h, ftV (walk5 ws stage frame page).f, v2] ∧ Own 3 1 v2 h2 ((walk5 ws stage frame page).rd.map inV) ∧ HpLe h2 hn) := by
  obtain ⟨q, cap, rfl, hne, hle⟩ := h.opened
  refine enter Tryz.func73 ?_
  refine run ?_
  intro B C D E
  have e4 : ∀ f : Int, 0 ≤ f → decide (f ≥ ((ws.length / 8 : Nat) : Int)) = !hasF ws.length f := fun f hf => by
    rw [Bool.eq_iff_iff]; simp [hasF]; omega
  refine loopS (σ := Nat × Int × Value × Hp × List Int × Int) (fun s => [(13, .int .i64 (s.1 : Int)), (2, .int .i64 s.2.1), (11, s.2.2.1)]) (fun s => ⟨E, #[.int .i64 0, .int .i64 stage, .int .i64 s.2.2.2.2.2, .bool false, .int .i64 (page : Int)], 44⟩ :: ⟨D, #[.int .i64 0, .int .i64 0, .int .i64 0, .bool false, .int .i64 0], 44⟩ :: ⟨C, #[.int .i64 0, .int .i64 0, .bool false, .bool false, .bool false, .bool false, .bool false, .int .i64 0, .int .i64 0], 62⟩ :: ⟨B, #[.slice q ws.length cap], 24⟩ :: s.2.2.2.1) (fun s => s.1 < 4 ∧ 0 ≤ s.2.1 ∧ s.2.2.2.2.1.length = s.1 ∧ wlk ws stage page (4 - s.1) s.1 s.2.1 s.2.2.2.2.1 = walk5 ws stage frame page ∧ Acc 3 1 s.2.2.1 s.2.2.2.1 (s.2.2.2.2.1.map inV)) (fun s => 4 - s.1) (0, frame, .slice none 0 0, [], [], 0) ⟨(by decide : 0 < 4), h0, rfl, rfl, Acc.nil _ _⟩ ?_ (hh := by exact HpLe.refl _)
  rintro ⟨level, f, v2, ha, rd, lv⟩ m hm ⟨hl, hf0, hrd, hwk, hA⟩
  dsimp only at hm hl hf0 hrd hwk hA ⊢
  obtain ⟨q2, cap2, rfl⟩ := hA.own.opened
  refine run ?_
  refine st_cond _ rfl (fun hc => ?_) (fun hc => absurd hc (by simp; omega))
  refine run ?_
  refine callE (fun wc hG => rFrames_e ws.length cap (by omega) q wc) ?_
  refine run ?_
  have h4 : 4 - level = (3 - level) + 1 := by omega
  rw [h4, wlk] at hwk
  have e5 := e4 f hf0
  refine st_cond _ rfl (fun hc => ?_) (fun hc => ?_)
  · have hh : hasF ws.length f = false := by simpa using e5.symm.trans hc
    rw [hh, cond_false] at hwk
    rw [← hwk]
    refine run ?_
    refine drawC 5 3 [0, 1, 2] [3, 4] (⟨E, #[.int .i64 1, .int .i64 stage, .int .i64 (level : Int), .bool false, .int .i64 (page : Int)], 44⟩ :: ⟨B, #[.slice q ws.length cap], 24⟩ :: ha) ?_
    refine runZ ?_
    refine cStore (b := C) (tb := 62) (cs := #[.int .i64 0, .int .i64 0, .bool false, .bool false, .bool false, .bool false, .bool false, .int .i64 0, .int .i64 0]) (cs' := #[.int .i64 0, .int .i64 0, .bool false, .bool false, .bool false, .bool false, .bool false, .int .i64 0, .int .i64 0]) (hp' := ⟨E, #[.int .i64 1, .int .i64 stage, .int .i64 (level : Int), .bool false, .int .i64 (page : Int)], 44⟩ :: ⟨D, #[.int .i64 0, .int .i64 0, .int .i64 0, .bool false, .int .i64 0], 44⟩ :: ⟨B, #[.slice q ws.length cap], 24⟩ :: ha) ?_ (by (refine perm_cnt fun a => ?_; simp only [cntB_app, cntB_cons, cntB_nil]; omega))
    refine cStore (b := D) (tb := 44) (cs := #[.int .i64 0, .int .i64 0, .int .i64 0, .bool false, .int .i64 0]) (cs' := #[.int .i64 1, .int .i64 stage, .int .i64 (level : Int), .bool false, .int .i64 (page : Int)]) (hp' := ⟨C, #[.int .i64 0, .int .i64 0, .bool false, .bool false, .bool false, .bool false, .bool false, .int .i64 0, .int .i64 0], 62⟩ :: ⟨E, #[.int .i64 1, .int .i64 stage, .int .i64 (level : Int), .bool false, .int .i64 (page : Int)], 44⟩ :: ⟨B, #[.slice q ws.length cap], 24⟩ :: ha) ?_ (by (refine perm_cnt fun a => ?_; simp only [cntB_app, cntB_cons, cntB_nil]; omega))
    refine dc_nil ?_
    refine opsC ?_
    refine run ?_
    exact finAA (cs := #[.int .i64 0, .int .i64 0, .bool false, .bool false, .bool false, .bool false, .bool false, .int .i64 0, .int .i64 0]) (cs2 := #[.int .i64 1, .int .i64 stage, .int .i64 (level : Int), .bool false, .int .i64 (page : Int)]) ⟨_, ha, rfl, hA.own, by (refine hpLe_cnt fun a => ?_; simp only [cntB_app, cntB_cons, cntB_nil]; omega)⟩
  · have hh : hasF ws.length f = true := by simpa using e5.symm.trans hc
    rw [hh, cond_true] at hwk
    refine run ?_
    intro T
    refine appendA (c := inV f) (hp' := ⟨T, #[.int .i64 f], 3⟩ :: ⟨E, #[.int .i64 0, .int .i64 stage, .int .i64 (level : Int), .bool false, .int .i64 (page : Int)], 44⟩ :: ⟨D, #[.int .i64 0, .int .i64 0, .int .i64 0, .bool false, .int .i64 0], 44⟩ :: ⟨C, #[.int .i64 0, .int .i64 0, .bool false, .bool false, .bool false, .bool false, .bool false, .int .i64 0, .int .i64 0], 62⟩ :: [⟨B, #[.slice q ws.length cap], 24⟩]) hA (fun v' ha' hA' => ?_) (by simp; omega) (news_own (m := 1) mh rfl) (hperm := by (refine perm_cnt fun a => ?_; simp only [cntB_app, cntB_cons, cntB_nil]; omega))
    rw [show rd.map inV ++ [inV f] = (rd ++ [f]).map inV by simp] at hA'
    obtain ⟨q3, cap3, rfl⟩ := hA'.own.opened
    refine ops_le (⟨E, #[.int .i64 0, .int .i64 stage, .int .i64 (level : Int), .bool false, .int .i64 (page : Int)], 44⟩ :: ⟨D, #[.int .i64 0, .int .i64 0, .int .i64 0, .bool false, .int .i64 0], 44⟩ :: ⟨C, #[.int .i64 0, .int .i64 0, .bool false, .bool false, .bool false, .bool false, .bool false, .int .i64 0, .int .i64 0], 62⟩ :: ⟨B, #[.slice q ws.length cap], 24⟩ :: ha') (by (refine hpLe_cnt fun a => ?_; simp only [cntB_app, cntB_cons, cntB_nil]; omega)) ?_
    refine run ?_
    refine callE (fun wc hG => rTable_e ws hw (h.good hG) stage hs level hl f hh page hp hn) ?_
    rw [show ofL stage level (ws.getD (atN f level page) 0) = dSt ws stage (atN f level page) level from rfl]
    have hmay := dSt_may ws stage (atN f level page) level
    generalize dSt ws stage (atN f level page) level = d at hwk hmay
    obtain ⟨hkk, hk0, hk1, hk2⟩ := may_kinds hmay
    refine run ?_
    intro X
    refine run ?_
    refine st_cond _ rfl (fun hc2 => ?_) (fun hc2 => ?_)
    · have hd1 : d.kind = 1 := by simpa using hc2
      obtain ⟨k1, k2, k3, k4⟩ := hk1 hd1
      rw [hc2, cond_true] at hwk
      refine run ?_
      refine nextS (level + 1, d.frame, .slice q3 ((rd ++ [f]).map inV).length cap3, ha', rd ++ [f], (level : Int)) ⟨by dsimp only; omega, k2, by simp [hrd], by rw [← hwk, show 4 - (level + 1) = 3 - level by omega], hA'⟩ (hm := by dsimp only; omega) (h2 := by (refine hpLe_cnt fun a => ?_; simp only [cntB_app, cntB_cons, cntB_nil]; omega))
    rw [hc2, cond_false] at hwk
    refine run ?_
    refine st_cond _ rfl (fun hc3 => ?_) (fun hc3 => ?_)
    · rw [endL, hc3, cond_true] at hwk
      rw [← hwk]
      refine run ?_
      refine drawC 5 3 [0, 1, 2] [3, 4] (⟨E, #[.int .i64 2, .int .i64 stage, .int .i64 (level : Int), .bool false, .int .i64 (page : Int)], 44⟩ :: ⟨X, #[.int .i64 d.kind, .int .i64 d.frame, .bool d.r, .bool d.w, .bool d.x, .bool d.af, .bool d.ng, .int .i64 d.soft, .int .i64 d.note], 100⟩ :: ⟨B, #[.slice q ws.length cap], 24⟩ :: ha') ?_
      refine runZ ?_
      refine cStore (b := C) (tb := 62) (cs := #[.int .i64 0, .int .i64 0, .bool false, .bool false, .bool false, .bool false, .bool false, .int .i64 0, .int .i64 0]) (cs' := #[.int .i64 0, .int .i64 0, .bool false, .bool false, .bool false, .bool false, .bool false, .int .i64 0, .int .i64 0]) (hp' := ⟨E, #[.int .i64 2, .int .i64 stage, .int .i64 (level : Int), .bool false, .int .i64 (page : Int)], 44⟩ :: ⟨D, #[.int .i64 0, .int .i64 0, .int .i64 0, .bool false, .int .i64 0], 44⟩ :: ⟨X, #[.int .i64 d.kind, .int .i64 d.frame, .bool d.r, .bool d.w, .bool d.x, .bool d.af, .bool d.ng, .int .i64 d.soft, .int .i64 d.note], 100⟩ :: ⟨B, #[.slice q ws.length cap], 24⟩ :: ha') ?_ (by (refine perm_cnt fun a => ?_; simp only [cntB_app, cntB_cons, cntB_nil]; omega))
      refine cStore (b := D) (tb := 44) (cs := #[.int .i64 0, .int .i64 0, .int .i64 0, .bool false, .int .i64 0]) (cs' := #[.int .i64 2, .int .i64 stage, .int .i64 (level : Int), .bool false, .int .i64 (page : Int)]) (hp' := ⟨C, #[.int .i64 0, .int .i64 0, .bool false, .bool false, .bool false, .bool false, .bool false, .int .i64 0, .int .i64 0], 62⟩ :: ⟨E, #[.int .i64 2, .int .i64 stage, .int .i64 (level : Int), .bool false, .int .i64 (page : Int)], 44⟩ :: ⟨X, #[.int .i64 d.kind, .int .i64 d.frame, .bool d.r, .bool d.w, .bool d.x, .bool d.af, .bool d.ng, .int .i64 d.soft, .int .i64 d.note], 100⟩ :: ⟨B, #[.slice q ws.length cap], 24⟩ :: ha') ?_ (by (refine perm_cnt fun a => ?_; simp only [cntB_app, cntB_cons, cntB_nil]; omega))
      refine dc_nil ?_
      refine opsC ?_
      refine run ?_
      exact finAA (cs := #[.int .i64 0, .int .i64 0, .bool false, .bool false, .bool false, .bool false, .bool false, .int .i64 0, .int .i64 0]) (cs2 := #[.int .i64 2, .int .i64 stage, .int .i64 (level : Int), .bool false, .int .i64 (page : Int)]) ⟨_, ha', rfl, hA'.own, by (refine hpLe_cnt fun a => ?_; simp only [cntB_app, cntB_cons, cntB_nil]; omega)⟩
    have hd2 : d.kind = 2 := by simp at hc2 hc3; omega
    obtain ⟨k1, k2, k3, k4, k5⟩ := hk2 hd2
    have hcv := dbits_lt hl
    have hmod := Nat.mod_lt page (show 0 < coversN level by omega)
    rw [endL, hc3, cond_false] at hwk
    refine run ?_
    refine drawAll ?_
    refine runD ?_
    refine callD (fun wc hG => rCovers_e level hl wc) ?_
    refine opD (x_remN rfl rfl page (coversN level) rfl rfl (by omega)) ?_
    refine runD ?_
    refine run ?_
    have e6 := e4 (d.frame + ((page % coversN level : Nat) : Int)) (by omega)
    refine callE (fun wc hG => rFrames_e ws.length cap (by omega) q wc) ?_
    refine run ?_
    refine st_cond _ rfl (fun hc4 => ?_) (fun hc4 => ?_)
    · have hh2 : hasF ws.length (d.frame + ((page % coversN level : Nat) : Int)) = false := by simpa using e6.symm.trans hc4
      rw [hh2, cond_false] at hwk
      rw [← hwk]
      refine run ?_
      refine drawC 5 3 [0, 1, 2] [3, 4] (⟨E, #[.int .i64 1, .int .i64 stage, .int .i64 (level : Int), .bool false, .int .i64 (page : Int)], 44⟩ :: ⟨X, #[.int .i64 d.kind, .int .i64 d.frame, .bool d.r, .bool d.w, .bool d.x, .bool d.af, .bool d.ng, .int .i64 d.soft, .int .i64 d.note], 100⟩ :: ⟨B, #[.slice q ws.length cap], 24⟩ :: ha') ?_
      refine runZ ?_
      refine cStore (b := C) (tb := 62) (cs := #[.int .i64 0, .int .i64 0, .bool false, .bool false, .bool false, .bool false, .bool false, .int .i64 0, .int .i64 0]) (cs' := #[.int .i64 0, .int .i64 0, .bool false, .bool false, .bool false, .bool false, .bool false, .int .i64 0, .int .i64 0]) (hp' := ⟨E, #[.int .i64 1, .int .i64 stage, .int .i64 (level : Int), .bool false, .int .i64 (page : Int)], 44⟩ :: ⟨D, #[.int .i64 0, .int .i64 0, .int .i64 0, .bool false, .int .i64 0], 44⟩ :: ⟨X, #[.int .i64 d.kind, .int .i64 d.frame, .bool d.r, .bool d.w, .bool d.x, .bool d.af, .bool d.ng, .int .i64 d.soft, .int .i64 d.note], 100⟩ :: ⟨B, #[.slice q ws.length cap], 24⟩ :: ha') ?_ (by (refine perm_cnt fun a => ?_; simp only [cntB_app, cntB_cons, cntB_nil]; omega))
      refine cStore (b := D) (tb := 44) (cs := #[.int .i64 0, .int .i64 0, .int .i64 0, .bool false, .int .i64 0]) (cs' := #[.int .i64 1, .int .i64 stage, .int .i64 (level : Int), .bool false, .int .i64 (page : Int)]) (hp' := ⟨C, #[.int .i64 0, .int .i64 0, .bool false, .bool false, .bool false, .bool false, .bool false, .int .i64 0, .int .i64 0], 62⟩ :: ⟨E, #[.int .i64 1, .int .i64 stage, .int .i64 (level : Int), .bool false, .int .i64 (page : Int)], 44⟩ :: ⟨X, #[.int .i64 d.kind, .int .i64 d.frame, .bool d.r, .bool d.w, .bool d.x, .bool d.af, .bool d.ng, .int .i64 d.soft, .int .i64 d.note], 100⟩ :: ⟨B, #[.slice q ws.length cap], 24⟩ :: ha') ?_ (by (refine perm_cnt fun a => ?_; simp only [cntB_app, cntB_cons, cntB_nil]; omega))
      refine dc_nil ?_
      refine opsC ?_
      refine run ?_
      exact finAA (cs := #[.int .i64 0, .int .i64 0, .bool false, .bool false, .bool false, .bool false, .bool false, .int .i64 0, .int .i64 0]) (cs2 := #[.int .i64 1, .int .i64 stage, .int .i64 (level : Int), .bool false, .int .i64 (page : Int)]) ⟨_, ha', rfl, hA'.own, by (refine hpLe_cnt fun a => ?_; simp only [cntB_app, cntB_cons, cntB_nil]; omega)⟩
    have hh2 : hasF ws.length (d.frame + ((page % coversN level : Nat) : Int)) = true := by simpa using e6.symm.trans hc4
    rw [hh2, cond_true] at hwk
    rw [← hwk]
    refine run ?_
    exact finAA (cs := #[.int .i64 (d.frame + ((page % coversN level : Nat) : Int)), .int .i64 0, .bool d.r, .bool d.w, .bool d.x, .bool d.af, .bool d.ng, .int .i64 d.soft, .int .i64 (level : Int)]) (cs2 := #[.int .i64 0, .int .i64 0, .int .i64 0, .bool false, .int .i64 0]) ⟨_, ha', rfl, hA'.own, by (refine hpLe_cnt fun a => ?_; simp only [cntB_app, cntB_cons, cntB_nil]; omega)⟩
theorem rMid_e (ws : List Nat) (hw : W64 ws) {w : World} {v : Value} (h : SlAt w v 1 (ws.map uV)) (hn : ws.length < 1000000) (on : Bool) (frame tag : Int) (h0 : 0 ≤ frame) (mid : Nat) (hp : mid ≤ 4095) (acc : Int) : Fn Tryz.prog 44 [.agg #[v], .agg #[.bool on, .int .i64 frame, .int .i64 tag], .int .i64 (mid : Int), .int .i64 acc].toArray w [] (fun u hn => ∃ v2 h2, u = .tuple #[htV (midL ws on frame mid acc).h, ftV (midL ws on frame mid acc).f, v2] ∧ Own 3 1 v2 h2 ((midL ws on frame mid acc).rd.map inV) ∧ HpLe h2 hn) := by
  obtain ⟨q, cap, rfl, hne, hle⟩ := h.opened
  refine enter Tryz.func44 ?_
  refine run ?_
  intro B R C D
  refine st_cond _ rfl (fun hc => ?_) (fun hc => ?_)
  · simp only [midL, hc, cond_true]
    refine run ?_
    refine callE (fun wc hG => rFrames_e ws.length cap (by omega) q wc) ?_
    refine run ?_
    have e6 : decide ((mid : Int) ≥ ((ws.length / 8 : Nat) : Int)) = !hasF ws.length (mid : Int) := by
      rw [Bool.eq_iff_iff]; simp [hasF]
    refine st_cond _ rfl (fun hc2 => ?_) (fun hc2 => ?_)
    · have hh2 : hasF ws.length (mid : Int) = false := by simpa using e6.symm.trans hc2
      rw [hh2, cond_false]
      refine run ?_
      exact finAA (cs := #[.int .i64 0, .int .i64 0, .bool false, .bool false, .bool false, .bool false, .bool false, .int .i64 0, .int .i64 0]) (cs2 := #[.int .i64 1, .int .i64 2, .int .i64 0, .bool false, .int .i64 (mid : Int)]) ⟨_, [], rfl, Own.nil _ _, trivial⟩
    have hh2 : hasF ws.length (mid : Int) = true := by simpa using e6.symm.trans hc2
    rw [hh2, cond_true]
    refine run ?_
    exact finAA (cs := #[.int .i64 (mid : Int), .int .i64 (mid : Int), .bool true, .bool true, .bool true, .bool true, .bool false, .int .i64 0, .int .i64 0]) (cs2 := #[.int .i64 0, .int .i64 0, .int .i64 0, .bool false, .int .i64 0]) ⟨_, [], rfl, Own.nil _ _, trivial⟩
  simp only [midL, hc, cond_false]
  refine run ?_
  refine callB (fun wc hG => rWalk_e ws hw (h.good hG) hn 2 (.inr rfl) frame h0 mid hp) ?_
  rintro u hn2 ⟨v2, h2, rfl, hO, hle2⟩
  generalize walk5 ws 2 frame mid = W at hO
  obtain ⟨q2, cap2, rfl⟩ := hO.opened
  refine ops_le (⟨D, #[.int .i64 0, .int .i64 0, .int .i64 0, .bool false, .int .i64 0], 44⟩ :: ⟨C, #[.int .i64 0, .int .i64 0, .bool false, .bool false, .bool false, .bool false, .bool false, .int .i64 0, .int .i64 0], 62⟩ :: ⟨R, #[.bool on, .int .i64 frame, .int .i64 tag], 29⟩ :: ⟨B, #[.slice q ws.length cap], 24⟩ :: h2) (by (refine hpLe_cnt fun a => ?_; have := HpLe.cnt hle2 a; simp only [cntB_app, cntB_cons, cntB_nil] at *; omega)) ?_
  refine run ?_
  intro H F
  refine st_cutD (σ := FtD) (fun _ => []) (fun g => ⟨F, #[.int .i64 g.kind, .int .i64 g.stage, .int .i64 g.level, .bool g.walk, .int .i64 g.page], 44⟩ :: ⟨H, #[.int .i64 W.h.frame, .int .i64 W.h.mid, .bool W.h.r, .bool W.h.w, .bool W.h.x, .bool W.h.af, .bool W.h.ng, .int .i64 W.h.soft, .int .i64 W.h.level], 62⟩ :: ⟨D, #[.int .i64 0, .int .i64 0, .int .i64 0, .bool false, .int .i64 0], 44⟩ :: ⟨C, #[.int .i64 0, .int .i64 0, .bool false, .bool false, .bool false, .bool false, .bool false, .int .i64 0, .int .i64 0], 62⟩ :: ⟨R, #[.bool on, .int .i64 frame, .int .i64 tag], 29⟩ :: ⟨B, #[.slice q ws.length cap], 24⟩ :: h2) (fun g => g = midG W mid acc) ?_ ?_
  · refine st_cond _ rfl (fun hc2 => ?_) (fun hc2 => ?_)
    · refine run ?_
      refine callE (fun wc hG => rFlag_e W.h.r W.h.w W.h.x W.h.af W.h.ng W.h.soft acc 2 W.h.level mid wc) ?_
      refine run ?_
      exact meetS (flagL W.h.r W.h.w W.h.x W.h.af acc 2 W.h.level mid) (by simp only [midG, hc2, cond_true])
    · refine run ?_
      exact meetS W.f (by simp only [midG, hc2, cond_false])
  rintro g hg
  simp only [midE]
  rw [← hg]
  refine run ?_
  refine st_cond _ rfl (fun hc3 => ?_) (fun hc3 => ?_)
  · rw [hc3, cond_true]
    refine run ?_
    refine drawC 5 3 [0, 1, 2] [3, 4] (⟨F, #[.int .i64 g.kind, .int .i64 g.stage, .int .i64 g.level, .bool g.walk, .int .i64 g.page], 44⟩ :: ⟨H, #[.int .i64 W.h.frame, .int .i64 W.h.mid, .bool W.h.r, .bool W.h.w, .bool W.h.x, .bool W.h.af, .bool W.h.ng, .int .i64 W.h.soft, .int .i64 W.h.level], 62⟩ :: ⟨R, #[.bool on, .int .i64 frame, .int .i64 tag], 29⟩ :: ⟨B, #[.slice q ws.length cap], 24⟩ :: h2) ?_
    refine runZ ?_
    refine cStore (b := C) (tb := 62) (cs := #[.int .i64 0, .int .i64 0, .bool false, .bool false, .bool false, .bool false, .bool false, .int .i64 0, .int .i64 0]) (cs' := #[.int .i64 0, .int .i64 0, .bool false, .bool false, .bool false, .bool false, .bool false, .int .i64 0, .int .i64 0]) (hp' := ⟨F, #[.int .i64 g.kind, .int .i64 g.stage, .int .i64 g.level, .bool g.walk, .int .i64 g.page], 44⟩ :: ⟨H, #[.int .i64 W.h.frame, .int .i64 W.h.mid, .bool W.h.r, .bool W.h.w, .bool W.h.x, .bool W.h.af, .bool W.h.ng, .int .i64 W.h.soft, .int .i64 W.h.level], 62⟩ :: ⟨D, #[.int .i64 0, .int .i64 0, .int .i64 0, .bool false, .int .i64 0], 44⟩ :: ⟨R, #[.bool on, .int .i64 frame, .int .i64 tag], 29⟩ :: ⟨B, #[.slice q ws.length cap], 24⟩ :: h2) ?_ (by (refine perm_cnt fun a => ?_; simp only [cntB_app, cntB_cons, cntB_nil]; omega))
    refine cStore (b := D) (tb := 44) (cs := #[.int .i64 0, .int .i64 0, .int .i64 0, .bool false, .int .i64 0]) (cs' := #[.int .i64 g.kind, .int .i64 g.stage, .int .i64 g.level, .bool g.walk, .int .i64 g.page]) (hp' := ⟨C, #[.int .i64 0, .int .i64 0, .bool false, .bool false, .bool false, .bool false, .bool false, .int .i64 0, .int .i64 0], 62⟩ :: ⟨F, #[.int .i64 g.kind, .int .i64 g.stage, .int .i64 g.level, .bool g.walk, .int .i64 g.page], 44⟩ :: ⟨H, #[.int .i64 W.h.frame, .int .i64 W.h.mid, .bool W.h.r, .bool W.h.w, .bool W.h.x, .bool W.h.af, .bool W.h.ng, .int .i64 W.h.soft, .int .i64 W.h.level], 62⟩ :: ⟨R, #[.bool on, .int .i64 frame, .int .i64 tag], 29⟩ :: ⟨B, #[.slice q ws.length cap], 24⟩ :: h2) ?_ (by (refine perm_cnt fun a => ?_; simp only [cntB_app, cntB_cons, cntB_nil]; omega))
    refine dc_nil ?_
    refine opsC ?_
    refine run ?_
    exact finAA (cs := #[.int .i64 0, .int .i64 0, .bool false, .bool false, .bool false, .bool false, .bool false, .int .i64 0, .int .i64 0]) (cs2 := #[.int .i64 g.kind, .int .i64 g.stage, .int .i64 g.level, .bool g.walk, .int .i64 g.page]) ⟨_, h2, rfl, hO, by (refine hpLe_cnt fun a => ?_; simp only [cntB_app, cntB_cons, cntB_nil]; omega)⟩
  rw [hc3, cond_false]
  refine run ?_
  refine drawC 5 3 [0, 1, 2] [3, 4] (⟨F, #[.int .i64 g.kind, .int .i64 g.stage, .int .i64 g.level, .bool g.walk, .int .i64 g.page], 44⟩ :: ⟨H, #[.int .i64 W.h.frame, .int .i64 (mid : Int), .bool W.h.r, .bool W.h.w, .bool W.h.x, .bool W.h.af, .bool W.h.ng, .int .i64 W.h.soft, .int .i64 W.h.level], 62⟩ :: ⟨R, #[.bool on, .int .i64 frame, .int .i64 tag], 29⟩ :: ⟨B, #[.slice q ws.length cap], 24⟩ :: h2) ?_
  refine runZ ?_
  refine cStore (b := C) (tb := 62) (cs := #[.int .i64 0, .int .i64 0, .bool false, .bool false, .bool false, .bool false, .bool false, .int .i64 0, .int .i64 0]) (cs' := #[.int .i64 W.h.frame, .int .i64 (mid : Int), .bool W.h.r, .bool W.h.w, .bool W.h.x, .bool W.h.af, .bool W.h.ng, .int .i64 W.h.soft, .int .i64 W.h.level]) (hp' := ⟨F, #[.int .i64 g.kind, .int .i64 g.stage, .int .i64 g.level, .bool g.walk, .int .i64 g.page], 44⟩ :: ⟨H, #[.int .i64 W.h.frame, .int .i64 (mid : Int), .bool W.h.r, .bool W.h.w, .bool W.h.x, .bool W.h.af, .bool W.h.ng, .int .i64 W.h.soft, .int .i64 W.h.level], 62⟩ :: ⟨D, #[.int .i64 0, .int .i64 0, .int .i64 0, .bool false, .int .i64 0], 44⟩ :: ⟨R, #[.bool on, .int .i64 frame, .int .i64 tag], 29⟩ :: ⟨B, #[.slice q ws.length cap], 24⟩ :: h2) ?_ (by (refine perm_cnt fun a => ?_; simp only [cntB_app, cntB_cons, cntB_nil]; omega))
  refine cStore (b := D) (tb := 44) (cs := #[.int .i64 0, .int .i64 0, .int .i64 0, .bool false, .int .i64 0]) (cs' := #[.int .i64 g.kind, .int .i64 g.stage, .int .i64 g.level, .bool g.walk, .int .i64 g.page]) (hp' := ⟨C, #[.int .i64 W.h.frame, .int .i64 (mid : Int), .bool W.h.r, .bool W.h.w, .bool W.h.x, .bool W.h.af, .bool W.h.ng, .int .i64 W.h.soft, .int .i64 W.h.level], 62⟩ :: ⟨F, #[.int .i64 g.kind, .int .i64 g.stage, .int .i64 g.level, .bool g.walk, .int .i64 g.page], 44⟩ :: ⟨H, #[.int .i64 W.h.frame, .int .i64 (mid : Int), .bool W.h.r, .bool W.h.w, .bool W.h.x, .bool W.h.af, .bool W.h.ng, .int .i64 W.h.soft, .int .i64 W.h.level], 62⟩ :: ⟨R, #[.bool on, .int .i64 frame, .int .i64 tag], 29⟩ :: ⟨B, #[.slice q ws.length cap], 24⟩ :: h2) ?_ (by (refine perm_cnt fun a => ?_; simp only [cntB_app, cntB_cons, cntB_nil]; omega))
  refine dc_nil ?_
  refine opsC ?_
  refine run ?_
  exact finAA (cs := #[.int .i64 W.h.frame, .int .i64 (mid : Int), .bool W.h.r, .bool W.h.w, .bool W.h.x, .bool W.h.af, .bool W.h.ng, .int .i64 W.h.soft, .int .i64 W.h.level]) (cs2 := #[.int .i64 g.kind, .int .i64 g.stage, .int .i64 g.level, .bool g.walk, .int .i64 g.page]) ⟨_, h2, rfl, hO, by (refine hpLe_cnt fun a => ?_; simp only [cntB_app, cntB_cons, cntB_nil]; omega)⟩
end Go.Proofs.YtdaenalnmdmflaaGreat
namespace Go.Proofs.YtdaenalnmdmflaaGreat
open Go.RowKit
set_option linter.unusedVariables false
set_option linter.unusedSimpArgs false
set_option maxRecDepth 20000
section
variable {P : Program} {T : Tab} {n : Nat} {w0 : World} {mu : List Nat} {l : Fm} {hp : Hp} {Q : Exit → Fm → Hp → Prop} {all : Array Oper} {rest : List Oper} {ty : TypeId} {pos : String} {af : Array Edge}
theorem z_append0 (ok : TabOk P T) {t d e sz k cap c : Nat} {p q : Option Addr} {x y : Operand} {z : Value} (hd : Nat.blt d n = true) (hx : ev l x = some (.slice p k cap)) (hle : k ≤ cap) (hy : ev l y = some (.slice q 0 c)) (ht : lk T.sl t = some (e, sz)) (hz : lk T.zs e = some z)
    (h : Ops P n w0 mu all rest ((d, .slice p k cap) :: l) hp Q) : Ops P n w0 mu all (⟨some d, .call { callee := .builtin .append, args := #[x, y], argTypes := #[t, t] }, ty, pos, af, none⟩ :: rest) l hp Q := by
  intro ac w hk hG
  have hput : ∀ v, Knows n ((d, v) :: l) (ac.put (some d) v) := fun v => Knows.put (d := some d) hk (fun t ht => by cases ht; simpa using hd) v
  obtain ⟨hu, hsz⟩ := ok.gsl ht
  refine wpList_plain rfl fun K hK => ?_
  have hr : (Builtin.append_ #[t, t] ty #[.slice p k cap, .slice q 0 c]).run P w = .ok (.slice p k cap) w := by
    cases p <;> cases q <;> simp [Builtin.append_, run_underlying hu, run_sizeOf hsz w, Builtin.lenOf, Builtin.firstCells, hle, storeCells, loadCells, loadCellsFrom]
  unfold Oper.wp execOp
  simp only [resolve, invoke, builtin, Sem.run_bind, Sem.run_pure, Result.andThen_ok, List.map_toArray, List.map_cons, List.map_nil, hk.ev hx, hk.ev hy, hr]
  exact hK _ _ (h _ _ (hput _) hG)
end
section
variable {n : Nat} {w0 : World} {mu : List Nat} {l : Fm} {hp : Hp} {Q : Exit → Fm → Hp → Prop} {all : Array Oper} {rest : List Oper} {ty : TypeId} {pos : String} {af : Array Edge}
def SrcAt (w0 : World) (mu : List Nat) (hp : Hp) (v : Value) (ys : List (List Value)) : Prop := ∃ q c, v = .slice q ys.length c ∧ (ys = [] ∨ ∃ a o, q = some ⟨a, o, none⟩ ∧ NewsAt w0 mu hp a o ys.flatten)
theorem SrcAt.own {e sz : Nat} {v : Value} {ha : Hp} {ys : List (List Value)} (hA : Own e sz v ha ys) (hm : HpLe ha hp) : SrcAt w0 mu hp v ys := by
  rcases hA.2 with ⟨rfl, rfl, rfl⟩ | ⟨g, cap, cur, rfl, rfl, hrow⟩
  · exact ⟨_, _, rfl, .inl rfl⟩
  · refine ⟨_, _, rfl, .inr ⟨g, 0, rfl, ?_⟩⟩
    have hb : (⟨g, cur, e⟩ : Blk) ∈ hp := by
      obtain ⟨x, hx, _⟩ := hm
      exact hx.mem_iff.1 (List.mem_cons_self ..)
    refine news_own (m := ys.length * sz) hb ?_
    rw [List.drop_zero]; exact hrow.take
theorem SrcAt.old {sz : Nat} {w0 : World} {hp : Hp} {v : Value} {α : Type} {f : α → List Value} {ys : List α} (h : SlAt w0 v sz (ys.map f)) (hall : ∀ c ∈ ys.map f, c.length = sz) : SrcAt w0 [] hp v (ys.map f) := by
  obtain ⟨⟨p, c, rfl, hne⟩, _⟩ := h
  refine ⟨p, c, rfl, ?_⟩
  by_cases h0 : ys.map f = []
  · exact .inl h0
  · obtain ⟨b, o, rfl, hr⟩ := hne h0
    exact .inr ⟨b, o, rfl, news_old (range_flatten _ o hall hr) (by simp)⟩
theorem SlAt.dropG {w : World} {α : Type} {f : α → List Value} {p : Option Addr} {n c i sz : Nat} {xs : List α} (h : SlAt w (.slice p n c) sz (xs.map f)) (hn : n = xs.length) (hc : n ≤ c) (hi : i ≤ n) : ∃ p', sliced p i n c sz = .slice p' (xs.drop i).length (c - i) ∧ (xs.drop i).length ≤ c - i ∧ SlAt w (.slice p' (xs.drop i).length (c - i)) sz ((xs.drop i).map f) := by
  subst hn
  obtain ⟨⟨q, cap, e, hne⟩, hle⟩ := h
  injection e with e1 e2 e3
  subst e1 e3
  have hdl : (xs.drop i).length = xs.length - i := List.length_drop
  refine ⟨_, by unfold sliced; rw [hdl], by omega, ⟨⟨_, _, by rw [List.length_map], fun hx => ?_⟩, by rw [List.length_map] at hle ⊢; omega⟩⟩
  have hlt : i < xs.length := by
    rcases Nat.lt_or_ge i xs.length with h | h
    · exact h
    · rw [List.drop_eq_nil_of_le h] at hx; exact absurd rfl hx
  obtain ⟨b, o, rfl, hr⟩ := hne (by intro e; simp at e; subst e; simp at hlt)
  refine ⟨b, o + i * sz, ?_, fun j cc hj => ?_⟩
  · rw [if_neg (by omega)]; simp [slice_add]
  · rw [List.map_drop, List.getElem?_drop] at hj
    have := hr (i + j) cc hj
    rwa [Nat.add_mul, ← Nat.add_assoc] at this
theorem appendG {t d e sz by_ : Nat} {x y : Operand} {z v yv : Value} {ha : Hp} {xs : List (List Value)} (ys : List (List Value)) (hp' : Hp) (hA : Own e sz v ha xs) (hS : SrcAt w0 mu hp yv ys) (h : ∀ v' ha', Own e sz v' ha' (xs ++ ys) → Ops Tryz.prog n w0 mu all rest ((d, v') :: l) (ha' ++ hp') Q) (h63 : xs.length + ys.length < 1000000) (hall : ∀ c ∈ ys, c.length = sz ∧ c.all (·.oneCell') = true)
    (hperm : (ha ++ hp').Perm hp) (hd : Nat.blt d n = true := by rfl) (hx : ev l x = some v := by rfl) (hy : ev l y = some yv := by rfl) (ht : lk Tb.sl t = some (e, sz) := by rfl)
    (hz : lk Tb.zs e = some z := by rfl) (hzs : z.cells.size = sz := by rfl) (hb : lk Tb.eb e = some by_ := by rfl) (hby : Nat.ble by_ 4096 = true := by rfl) : Ops Tryz.prog n w0 mu all (⟨some d, .call { callee := .builtin .append, args := #[x, y], argTypes := #[t, t] }, ty, pos, af, none⟩ :: rest) l hp Q := by
  have hby' : by_ ≤ 4096 := Nat.le_of_ble_eq_true hby
  have hfl := flatten_len ys (fun c hc => (hall c hc).1)
  obtain ⟨q, c, rfl, hsrc⟩ := hS
  have hall2 : ∀ c ∈ xs ++ ys, c.length = sz ∧ c.all (·.oneCell') = true := fun c hc => by
    rcases List.mem_append.1 hc with hc | hc
    · exact hA.1 c hc
    · exact hall c hc
  by_cases h0 : ys = []
  · subst h0
    rw [List.append_nil] at h
    have hsh : ∃ p cap, v = .slice p xs.length cap ∧ xs.length ≤ cap := by
      rcases hA.2 with ⟨rfl, rfl, rfl⟩ | ⟨g, cap, cur, rfl, rfl, hrow⟩
      · exact ⟨_, _, rfl, Nat.le_refl _⟩
      · exact ⟨_, _, rfl, hrow.le⟩
    obtain ⟨p, cap, rfl, hle⟩ := hsh
    refine z_append0 tb_ok hd hx hle hy ht hz ?_
    exact ops_perm _ hperm (h _ ha hA)
  · obtain ⟨a, o, rfl, hnews⟩ := hsrc.resolve_left h0
    have hpos : 0 < ys.length := List.length_pos_iff.2 h0
    rcases hA.2 with ⟨rfl, rfl, rfl⟩ | ⟨g, cap, cur, rfl, rfl, hrow⟩
    · refine z_appendN tb_ok hd hx hy ht hz hzs hb hpos hfl hnews (by simp at h63; omega) ?_ fun g cap cur hr => ?_
      · calc _ ≤ 1000000 * by_ := Nat.mul_le_mul_right _ (by simp at h63; omega)
          _ ≤ 1000000 * 4096 := Nat.mul_le_mul_left _ hby'
          _ ≤ _ := by decide
      · have := h (.slice (some ⟨g, 0, none⟩) ys.length cap) [⟨g, cur, e⟩] ⟨hall2, .inr ⟨g, cap, cur, rfl, rfl, by simpa using hr⟩⟩
        refine ops_perm _ ?_ this
        exact (hperm.cons _ : (⟨g, cur, e⟩ :: ([] ++ hp')).Perm (⟨g, cur, e⟩ :: hp))
    · refine z_appendO tb_ok hd hx hy ht hz hzs hb hperm hrow (news := ys.flatten) hfl hnews ?_ (by omega) ?_ fun g cap cur hr => ?_
      · rw [List.all_flatten, List.all_eq_true]
        exact fun c hc => (hall c hc).2
      · have h2 : (xs.length + ys.length + (xs.length + ys.length) / 4 + 192) ≤ 2000000 := by omega
        calc _ ≤ 2000000 * by_ := Nat.mul_le_mul_right _ h2
          _ ≤ 2000000 * 4096 := Nat.mul_le_mul_left _ hby'
          _ ≤ _ := by decide
      · have := h (.slice (some ⟨g, 0, none⟩) (xs.length + ys.length) cap) [⟨g, cur, e⟩] ⟨hall2, .inr ⟨g, cap, cur, by rw [List.length_append], rfl, by rw [List.length_append, List.flatten_append]; exact hr⟩⟩
        exact this
end
end Go.Proofs.YtdaenalnmdmflaaGreat
namespace Go.Proofs.YtdaenalnmdmflaaGreat
open Go.RowKit
set_option linter.unusedVariables false
set_option linter.unusedSimpArgs false
set_option maxRecDepth 20000
def EnD.of_ (e : EnD) (V A : Int) : Bool := decide (e.vmid = V) && (e.all || decide (e.asid = A))
def EnD.lets (e : EnD) (acc : Int) : Bool := mayA e.r e.w e.x acc
def pWhole (V A P acc : Int) (e : EnD) : Bool := decide (e.kind = 1) && e.of_ V A && decide (e.page = P) && e.lets acc
def pMid (V P acc : Int) (e : EnD) : Bool := decide (e.kind = 2) && decide (e.vmid = V) && decide (e.page = P) && e.lets acc
def pWlk (V A : Int) (P : Nat) (e : EnD) : Bool := decide (e.kind = 3) && e.of_ V A && decide (e.page = ((cutN (e.level.toNat - 1) P : Nat) : Int))
def bestI (es : List EnD) (q : EnD → Bool) : Nat → Int
  | 0 => -1
  | k + 1 => bif q (es.getD k default) && (decide (bestI es q k < 0) || decide ((es.getD (bestI es q k).toNat default).level < (es.getD k default).level)) then (k : Int) else bestI es q k
theorem bestI_lt {es : List EnD} {q : EnD → Bool} : ∀ k, -1 ≤ bestI es q k ∧ bestI es q k < (k : Int) := by
  intro k
  induction k with
  | zero => rw [bestI]; omega
  | succ k ih =>
    rw [bestI]
    cases (q (es.getD k default) && (decide (bestI es q k < 0) || decide ((es.getD (bestI es q k).toNat default).level < (es.getD k default).level))) with
    | true => rw [cond_true]; omega
    | false => rw [cond_false]; omega
def fillL (es : List EnD) (e : EnD) : List EnD := bif !(es.any fun t => decide (t = e)) && decide (es.length < 8) then es ++ [e] else es
attribute [local irreducible] Hy St Ops DH DHF DE1 DE2 DE3 DS DCh
theorem copyEntries_e {w : World} (xs : List EnD) (v : Value) (h : SlAt w v 14 (xs.map enV)) (hl : xs.length < 1000000) : Fn Tryz.prog 27 [v].toArray w [] (fun u hp => Acc 88 14 u hp (xs.map enV)) := by
  obtain ⟨q, cap, rfl, hne, hle⟩ := h.opened
  refine enter Tryz.func27 ?_
  refine run ?_
  refine loopS (σ := Nat × Value × Hp) (fun s => [(3, s.2.1), (4, .int .i64 (s.1 : Int))]) (fun s => s.2.2) (fun s => s.1 ≤ xs.length ∧ Acc 88 14 s.2.1 s.2.2 ((xs.take s.1).map enV)) (fun s => xs.length - s.1) (0, _, []) ⟨by omega, Acc.nil _ _⟩ ?_
  rintro ⟨k, v, ha⟩ m hm ⟨hk, hA⟩
  dsimp only at hm hk hA ⊢
  refine run ?_
  refine st_cond _ rfl (fun hc => ?_) (fun hc => ?_)
  · have hlt : k < xs.length := by simp at hc; omega
    obtain ⟨b, o, rfl⟩ := hne (by intro e; subst e; simp at hlt)
    have h1 := (h.row hlt)
    refine run ?_
    intro T
    refine appendA (c := enV (xs.getD k default)) hA (fun v' ha' hA' => ?_) (by simp; omega) (news_own (m := 14) mh rfl)
    refine run ?_
    refine nextS (k + 1, v', ha') ⟨hlt, ?_⟩
    dsimp only
    rw [take_next hlt, List.map_append]
    exact hA'
  · have : k = xs.length := by simp at hc; omega
    subst this
    refine run ?_
    refine fin1 ?_
    simpa using hA
theorem copyInvals_e {w : World} (xs : List IvD) (v : Value) (h : SlAt w v 4 (xs.map ivV)) (hl : xs.length < 1000000) : Fn Tryz.prog 28 [v].toArray w [] (fun u hp => Acc 94 4 u hp (xs.map ivV)) := by
  obtain ⟨q, cap, rfl, hne, hle⟩ := h.opened
  refine enter Tryz.func28 ?_
  refine run ?_
  refine loopS (σ := Nat × Value × Hp) (fun s => [(3, s.2.1), (4, .int .i64 (s.1 : Int))]) (fun s => s.2.2) (fun s => s.1 ≤ xs.length ∧ Acc 94 4 s.2.1 s.2.2 ((xs.take s.1).map ivV)) (fun s => xs.length - s.1) (0, _, []) ⟨by omega, Acc.nil _ _⟩ ?_
  rintro ⟨k, v, ha⟩ m hm ⟨hk, hA⟩
  dsimp only at hm hk hA ⊢
  refine run ?_
  refine st_cond _ rfl (fun hc => ?_) (fun hc => ?_)
  · have hlt : k < xs.length := by simp at hc; omega
    obtain ⟨b, o, rfl⟩ := hne (by intro e; subst e; simp at hlt)
    have h1 := (h.row hlt)
    refine run ?_
    intro T
    refine appendA (c := ivV (xs.getD k default)) hA (fun v' ha' hA' => ?_) (by simp; omega) (news_own (m := 4) mh rfl)
    refine run ?_
    refine nextS (k + 1, v', ha') ⟨hlt, ?_⟩
    dsimp only
    rw [take_next hlt, List.map_append]
    exact hA'
  · have : k = xs.length := by simp at hc; omega
    subst this
    refine run ?_
    refine fin1 ?_
    simpa using hA
theorem copyTLB_e {w : World} (es : List EnD) (ds : List IvD) (v u : Value) (h : SlAt w v 14 (es.map enV)) (hd : SlAt w u 4 (ds.map ivV)) (hl : es.length < 1000000) (hl2 : ds.length < 1000000) : Fn Tryz.prog 10 [.agg #[v, u]].toArray w [] (fun r hn => ∃ v1 h1 v2 h2, r = .agg #[v1, v2] ∧ Acc 88 14 v1 h1 (es.map enV) ∧ Acc 94 4 v2 h2 (ds.map ivV) ∧ HpLe (h1 ++ h2) hn) := by
  have h' := h
  have hd' := hd
  obtain ⟨q, cap, rfl, _, _⟩ := h.opened
  obtain ⟨q2, cap2, rfl, _, _⟩ := hd.opened
  refine enter Tryz.func10 ?_
  refine run ?_
  intro B R X
  refine run ?_
  refine callB (fun wc hG => copyEntries_e es _ (h'.good hG) hl) (fun v1 h1 hA => ?_)
  obtain ⟨q3, c3, e3⟩ := hA.own.opened
  rw [List.length_map] at e3
  subst e3
  refine ops_perm (_ ++ h1) List.perm_append_comm ?_
  simp only [List.cons_append, List.nil_append]
  refine run ?_
  refine callB (fun wc hG => copyInvals_e ds _ (hd'.good hG) hl2) (fun v2 h2 hA2 => ?_)
  obtain ⟨q4, c4, e4⟩ := hA2.own.opened
  rw [List.length_map] at e4
  subst e4
  refine ops_perm (_ ++ h2) List.perm_append_comm ?_
  simp only [List.cons_append, List.nil_append]
  refine run ?_
  exact finA (cs := #[.slice q3 es.length c3, .slice q4 ds.length c4]) ⟨_, h1, _, h2, rfl, hA, hA2, by (refine hpLe_cnt fun a => ?_; simp only [cntB_app, cntB_cons, cntB_nil]; omega)⟩
theorem of9_e (e : EnD) (V A : Int) (w : World) : Fn Tryz.prog 69 [.agg (enV e).toArray, .int .i64 V, .int .i64 A].toArray w [] (fun u _ => u = .bool (e.of_ V A)) := by
  refine enter Tryz.func69 ?_
  refine runG ?_
  intro B
  exact fin1 rfl
theorem whole9_e {w : World} (es : List EnD) (V A P acc : Int) (v u : Value) (h : SlAt w v 14 (es.map enV)) (hu : ∃ p n c, u = .slice p n c) : Fn Tryz.prog 38 [.agg #[v, u], .int .i64 V, .int .i64 A, .int .i64 P, .int .i64 acc].toArray w [] (fun r _ => r = .int .i64 (idxI (pWhole V A P acc) es)) := by
  obtain ⟨q, cap, rfl, hne, hle⟩ := h.opened
  obtain ⟨q2, n2, c2, rfl⟩ := hu
  refine enter Tryz.func38 ?_
  refine run ?_
  intro B
  refine loopS (σ := Nat) (fun k => [(11, .int .i64 (k : Int))]) (fun _ => [⟨B, #[.slice q es.length cap, .slice q2 n2 c2], 35⟩]) (fun k => k ≤ es.length ∧ ∀ j, j < k → pWhole V A P acc (es.getD j default) = false) (fun k => es.length - k) 0 ⟨Nat.zero_le _, fun j hj => absurd hj (by omega)⟩ ?_
  rintro k m hm ⟨hk, hno⟩
  refine run ?_
  refine st_cond _ rfl (fun hc => ?_) (fun hc => ?_)
  · have hlt : k < es.length := by simp at hc; omega
    obtain ⟨b, o, rfl⟩ := hne (by intro e; subst e; simp at hlt)
    have hr := h.row hlt
    generalize hge : es.getD k default = e at hr
    refine run ?_
    intro X
    refine runG ?_
    refine callEG (fun _ wc hG => of9_e e V A wc) ?_
    refine runG ?_
    refine callEG (fun _ wc hG => rMayA_e e.r e.w e.x e.af e.ng e.soft acc wc) ?_
    refine runG ?_
    refine st_cond _ rfl (fun hp => ?_) (fun hp => ?_)
    · refine run ?_
      refine fin1 ?_
      rw [idxI_at hlt (by rw [hge]; exact hp) hno]
    · refine run ?_
      refine nextS (k + 1) ⟨hlt, fun j hj => ?_⟩ (h2 := by (refine hpLe_cnt fun a => ?_; simp only [cntB_app, cntB_cons, cntB_nil]; omega))
      rcases Nat.lt_succ_iff_lt_or_eq.1 hj with hj | rfl
      · exact hno j hj
      · rw [hge]; exact hp
  · have hge : k = es.length := by simp at hc; omega
    subst hge
    refine run ?_
    refine fin1 ?_
    rw [idxI_none hno]
theorem mid9_e {w : World} (es : List EnD) (V P acc : Int) (v u : Value) (h : SlAt w v 14 (es.map enV)) (hu : ∃ p n c, u = .slice p n c) : Fn Tryz.prog 66 [.agg #[v, u], .int .i64 V, .int .i64 P, .int .i64 acc].toArray w [] (fun r _ => r = .int .i64 (idxI (pMid V P acc) es)) := by
  obtain ⟨q, cap, rfl, hne, hle⟩ := h.opened
  obtain ⟨q2, n2, c2, rfl⟩ := hu
  refine enter Tryz.func66 ?_
  refine run ?_
  intro B
  refine loopS (σ := Nat) (fun k => [(9, .int .i64 (k : Int))]) (fun _ => [⟨B, #[.slice q es.length cap, .slice q2 n2 c2], 35⟩]) (fun k => k ≤ es.length ∧ ∀ j, j < k → pMid V P acc (es.getD j default) = false) (fun k => es.length - k) 0 ⟨Nat.zero_le _, fun j hj => absurd hj (by omega)⟩ ?_
  rintro k m hm ⟨hk, hno⟩
  refine run ?_
  refine st_cond _ rfl (fun hc => ?_) (fun hc => ?_)
  · have hlt : k < es.length := by simp at hc; omega
    obtain ⟨b, o, rfl⟩ := hne (by intro e; subst e; simp at hlt)
    have hr := h.row hlt
    generalize hge : es.getD k default = e at hr
    refine run ?_
    intro X
    refine runG ?_
    refine callEG (fun _ wc hG => rMayA_e e.r e.w e.x e.af e.ng e.soft acc wc) ?_
    refine runG ?_
    refine st_cond _ rfl (fun hp => ?_) (fun hp => ?_)
    · refine run ?_
      refine fin1 ?_
      rw [idxI_at hlt (by rw [hge]; exact hp) hno]
    · refine run ?_
      refine nextS (k + 1) ⟨hlt, fun j hj => ?_⟩ (h2 := by (refine hpLe_cnt fun a => ?_; simp only [cntB_app, cntB_cons, cntB_nil]; omega))
      rcases Nat.lt_succ_iff_lt_or_eq.1 hj with hj | rfl
      · exact hno j hj
      · rw [hge]; exact hp
  · have hge : k = es.length := by simp at hc; omega
    subst hge
    refine run ?_
    refine fin1 ?_
    rw [idxI_none hno]
theorem may_walk {e : EnD} (h : e.may = true) (hk : e.kind = 3) : ((e.level.toNat : Nat) : Int) = e.level ∧ 1 ≤ e.level.toNat ∧ e.level.toNat < 4 ∧ e.nums = true := by
  simp only [EnD.may, hk, Bool.and_eq_true, show decide ((3 : Int) = 1) = false from rfl, show decide ((3 : Int) = 2) = false from rfl, decide_true, cond_true, cond_false, PtD.btw, decide_eq_true_eq] at h
  obtain ⟨h1, ⟨⟨⟨h2, h3⟩, _⟩, _⟩⟩ := h
  exact ⟨by omega, by omega, by omega, h1⟩
theorem above_i {V A : Int} (e : EnD) (h : e.may = true) (hk : e.kind = 3 ∧ e.of_ V A = true) (P : Nat) (hP : P ≤ 4095) (w : World) : Fn Tryz.prog 71 [.int .i64 e.level, .int .i64 (P : Int)].toArray w [] (fun u _ => u = .int .i64 ((cutN (e.level.toNat - 1) P : Nat) : Int)) := by
  obtain ⟨h1, h2, h3, _⟩ := may_walk h hk.1
  have := above_e e.level.toNat h2 h3 P hP w
  rwa [h1] at this
theorem walk9_e {w : World} (es : List EnD) (hmay : ∀ e ∈ es, e.may = true) (V A : Int) (P : Nat) (hP : P ≤ 4095) (v u : Value) (h : SlAt w v 14 (es.map enV)) (hu : ∃ p n c, u = .slice p n c) : Fn Tryz.prog 39 [.agg #[v, u], .int .i64 V, .int .i64 A, .int .i64 (P : Int)].toArray w [] (fun r _ => r = .int .i64 (bestI es (pWlk V A P) es.length)) := by
  obtain ⟨q, cap, rfl, hne, hle⟩ := h.opened
  obtain ⟨q2, n2, c2, rfl⟩ := hu
  refine enter Tryz.func39 ?_
  refine run ?_
  intro B
  refine loopS (σ := Nat × Int) (fun s => [(10, .int .i64 (s.1 : Int)), (9, .int .i64 s.2)]) (fun _ => [⟨B, #[.slice q es.length cap, .slice q2 n2 c2], 35⟩]) (fun s => s.1 ≤ es.length ∧ bestI es (pWlk V A P) s.1 = s.2) (fun s => es.length - s.1) (0, -1) ⟨Nat.zero_le _, rfl⟩ ?_
  rintro ⟨k, z⟩ m hm ⟨hk, hz⟩
  dsimp only at hm hk hz ⊢
  have hbl := bestI_lt (es := es) (q := pWlk V A P) k
  rw [hz] at hbl
  have hbs : bestI es (pWlk V A P) (k + 1) = bif pWlk V A P (es.getD k default) && (decide (z < 0) || decide ((es.getD z.toNat default).level < (es.getD k default).level)) then (k : Int) else z := by rw [bestI, hz]
  refine run ?_
  refine st_cond _ rfl (fun hc => ?_) (fun hc => ?_)
  · have hlt : k < es.length := by simp at hc; omega
    obtain ⟨b, o, rfl⟩ := hne (by intro e; subst e; simp at hlt)
    have hr := h.row hlt
    have hra := rangeAt_cell (k := 5) (h.row (show z.toNat < es.length by omega)) rfl
    have hem := hmay _ (getD_mem hlt)
    generalize es.getD k default = e at hr hem hbs
    generalize es.getD z.toNat default = y at hra hbs
    refine run ?_
    intro X
    refine runG ?_
    refine drawAll ?_
    refine runDG ?_
    refine callDG (fun _ wc hG => of9_e e V A wc) ?_
    refine runDG ?_
    refine callDG (b := decide (e.kind = 3) && e.of_ V A) (want := true) (v := .int .i64 ((cutN (e.level.toNat - 1) P : Nat) : Int)) (fun hg wc hG => above_i (V := V) (A := A) e hem (by simpa [wnt] using hg) P hP wc) ?_
    refine runDG ?_
    refine run ?_
    refine st_cond _ rfl (fun hp => ?_) (fun hp => ?_)
    · refine run ?_
      refine nextS (k + 1, (k : Int)) ⟨hlt, by dsimp only; rw [hbs]; exact congrArg (fun c => bif c then (k : Int) else z) hp⟩ (hm := by dsimp only; omega) (h2 := by (refine hpLe_cnt fun a => ?_; simp only [cntB_app, cntB_cons, cntB_nil]; omega))
    · refine run ?_
      refine nextS (k + 1, z) ⟨hlt, by dsimp only; rw [hbs]; exact congrArg (fun c => bif c then (k : Int) else z) hp⟩ (hm := by dsimp only; omega) (h2 := by (refine hpLe_cnt fun a => ?_; simp only [cntB_app, cntB_cons, cntB_nil]; omega))
  · have hge : k = es.length := by simp at hc; omega
    subst hge
    refine run ?_
    refine fin1 ?_
    rw [hz]
theorem idxI_neg {α : Type} [Inhabited α] (p : α → Bool) (l : List α) : decide (idxI p l < 0) = !l.any p := by
  cases h : l.any p with
  | false =>
    have : idxI p l = -1 := idxI_none fun j hj => by
      rw [List.any_eq_false] at h
      have := h _ (getD_mem hj)
      simpa using this
    rw [this]; rfl
  | true =>
    obtain ⟨x, hx, hp⟩ := List.any_eq_true.1 h
    obtain ⟨j, hj, rfl⟩ := List.getElem_of_mem hx
    have hjp : p (l.getD j default) = true := by rw [List.getD_eq_getElem?_getD, List.getElem?_eq_getElem hj]; exact hp
    obtain ⟨j0, h0, h1, h2⟩ := idx_least p l j hjp
    rw [idxI_at (k := j0) (by omega) h1 h2]
    simp
theorem fill9_e {w : World} (es : List EnD) (ds : List IvD) (e : EnD) (v u : Value) (h : SlAt w v 14 (es.map enV)) (hd : SlAt w u 4 (ds.map ivV)) (hl : es.length < 1000000) (hl2 : ds.length < 1000000) : Fn Tryz.prog 67 [.agg #[v, u], .agg (enV e).toArray].toArray w [] (fun r hn => ∃ v1 h1 v2 h2, r = .agg #[v1, v2] ∧ Acc 88 14 v1 h1 ((fillL es e).map enV) ∧ Acc 94 4 v2 h2 (ds.map ivV) ∧ HpLe (h1 ++ h2) hn) := by
  have h' := h
  have hd' := hd
  obtain ⟨q, cap, rfl, _, _⟩ := h.opened
  obtain ⟨q2, cap2, rfl, _, _⟩ := hd.opened
  refine enter Tryz.func67 ?_
  refine run ?_
  intro B C R
  refine run ?_
  refine callB (fun wc hG => copyTLB_e es ds _ _ (h'.good hG) (hd'.good hG) hl hl2) ?_
  rintro r hn ⟨v1, h1, v2, h2, rfl, hA1, hA2, hle⟩
  obtain ⟨q3, c3, e3⟩ := hA1.own.opened
  rw [List.length_map] at e3
  subst e3
  obtain ⟨q4, c4, e4⟩ := hA2.own.opened
  rw [List.length_map] at e4
  subst e4
  refine ops_sub hle ?_
  refine ops_perm (_ ++ (h1 ++ h2)) List.perm_append_comm ?_
  simp only [List.cons_append, List.nil_append]
  refine run ?_
  intro X
  refine callE (fun wc hG => inEn_e e es _ (h'.good hG)) ?_
  refine runG ?_
  rw [idxI_neg]
  have e8 : decide ((es.length : Int) < 8) = decide (es.length < 8) := by rw [Bool.eq_iff_iff, decide_eq_true_eq, decide_eq_true_eq]; omega
  rw [e8]
  refine st_cond _ rfl (fun hc => ?_) (fun hc => ?_)
  · have hf : fillL es e = es ++ [e] := by simp only [fillL, hc, cond_true]
    rw [hf]
    refine run ?_
    intro T
    refine appendA (c := enV e) (hp' := [⟨T, #[.int .i64 e.kind, .int .i64 e.vmid, .int .i64 e.asid, .bool e.all, .int .i64 e.page, .int .i64 e.level, .int .i64 e.frame, .int .i64 e.mid, .bool e.r, .bool e.w, .bool e.x, .bool e.af, .bool e.ng, .int .i64 e.soft], 88⟩, ⟨X, #[.slice q3 es.length c3, .slice q4 ds.length c4], 35⟩, ⟨R, #[.slice none 0 0, .slice none 0 0], 35⟩, ⟨C, (enV e).toArray, 88⟩, ⟨B, #[.slice q es.length cap, .slice q2 ds.length cap2], 35⟩] ++ h2) hA1 (fun v' ha' hA' => ?_) (by rw [List.length_map]; omega) (news_own (m := 14) mh rfl) (hperm := by (refine perm_cnt fun a => ?_; simp only [cntB_app, cntB_cons, cntB_nil]; omega))
    rw [show es.map enV ++ [enV e] = (es ++ [e]).map enV by simp] at hA'
    obtain ⟨q5, c5, e5⟩ := hA'.own.opened
    rw [List.length_map] at e5
    subst e5
    refine ops_le (⟨X, #[.slice q3 es.length c3, .slice q4 ds.length c4], 35⟩ :: ⟨R, #[.slice none 0 0, .slice none 0 0], 35⟩ :: (ha' ++ h2)) (by (refine hpLe_cnt fun a => ?_; simp only [cntB_app, cntB_cons, cntB_nil]; omega)) ?_
    refine run ?_
    exact finA (cs := #[.slice q5 (es ++ [e]).length c5, .slice q4 ds.length c4]) ⟨_, ha', _, h2, rfl, hA', hA2, by (refine hpLe_cnt fun a => ?_; simp only [cntB_app, cntB_cons, cntB_nil]; omega)⟩
  · have hf : fillL es e = es := by simp only [fillL, hc, cond_false]
    rw [hf]
    refine run ?_
    exact finA (cs := #[.slice q3 es.length c3, .slice q4 ds.length c4]) ⟨_, h1, _, h2, rfl, hA1, hA2, by (refine hpLe_cnt fun a => ?_; simp only [cntB_app, cntB_cons, cntB_nil]; omega)⟩
theorem drop9_e {w : World} (es : List EnD) (ds : List IvD) (i : Nat) (hi : i < es.length) (v u : Value) (h : SlAt w v 14 (es.map enV)) (hcap : ∃ q c, v = .slice q es.length c ∧ es.length ≤ c) (hd : SlAt w u 4 (ds.map ivV)) (hl : es.length < 1000000) (hl2 : ds.length < 1000000) : Fn Tryz.prog 36 [.agg #[v, u], .int .i64 (i : Int)].toArray w [] (fun r hn => ∃ v1 h1 v2 h2, r = .agg #[v1, v2] ∧ Own 88 14 v1 h1 ((es.eraseIdx i).map enV) ∧ Acc 94 4 v2 h2 (ds.map ivV) ∧ HpLe (h1 ++ h2) hn) := by
  have h' := h
  have hd' := hd
  obtain ⟨q, cap, rfl, hle0⟩ := hcap
  obtain ⟨q', cap', eq', hne, _⟩ := h.opened
  injection eq' with eq1 _ eq3
  subst eq1 eq3
  obtain ⟨b, o, rfl⟩ := hne (by intro e; subst e; simp at hi)
  obtain ⟨q2, cap2, rfl, _, _⟩ := hd.opened
  refine enter Tryz.func36 ?_
  refine run ?_
  intro B R
  refine run ?_
  refine callB (fun wc hG => copyTLB_e es ds _ _ (h'.good hG) (hd'.good hG) hl hl2) ?_
  rintro r hn ⟨v1, h1, v2, h2, rfl, hA1, hA2, hle⟩
  obtain ⟨q3, c3, e3⟩ := hA1.own.opened
  rw [List.length_map] at e3
  subst e3
  obtain ⟨q4, c4, e4⟩ := hA2.own.opened
  rw [List.length_map] at e4
  subst e4
  refine ops_sub hle ?_
  refine ops_perm (_ ++ (h1 ++ h2)) List.perm_append_comm ?_
  simp only [List.cons_append, List.nil_append]
  refine run ?_
  intro X
  refine run ?_
  refine drawC 10 4 [0, 1, 2, 3, 5, 6, 7, 8, 9] [4] (⟨X, #[.slice q3 es.length c3, .slice q4 ds.length c4], 35⟩ :: ⟨R, #[.slice none 0 0, .slice none 0 0], 35⟩ :: ⟨B, #[.slice (some ⟨b, o, none⟩) es.length cap, .slice q2 ds.length cap2], 35⟩ :: (h1 ++ h2)) ?_
  refine runZ ?_
  refine ds_a (by rfl) (by decide +kernel) (fun hx => x_sliceH tb_ok rfl rfl (by rfl) (by omega) (by omega) (m' := i) (by simp) (.inr ⟨_, _, rfl⟩)) ?_
  refine runZ ?_
  refine ds_b (by rfl) (by decide +kernel) (fun hx => x_sliceLV tb_ok rfl rfl (by rfl) (by omega) (by omega)) ?_
  obtain ⟨p', e7, hc7, hsl7⟩ := h'.dropG (i := i + 1) rfl hle0 (by omega)
  rw [show sliced (some ⟨b, o, none⟩) (((i + 1 : Nat) : Int)).toNat es.length cap 14 = _ from e7]
  refine runZ ?_
  refine cCall (fun wc hG => copyEntries_e (es.take i) _ ((h'.good hG).takeN (k := i) (by omega)) (by rw [List.length_take]; omega)) ?_
  intro v5 h5 hA5
  obtain ⟨q5, c5, e5⟩ := hA5.own.opened
  subst e5
  refine dc_nil ?_
  refine opsC ?_
  have hall : ∀ c ∈ (es.drop (i + 1)).map enV, c.length = 14 ∧ c.all (·.oneCell') = true := fun c hc => by
    obtain ⟨x, _, rfl⟩ := List.mem_map.1 hc
    exact ⟨rfl, rfl⟩
  refine appendG ((es.drop (i + 1)).map enV) (⟨X, #[.slice q3 es.length c3, .slice q4 ds.length c4], 35⟩ :: ⟨R, #[.slice none 0 0, .slice none 0 0], 35⟩ :: ⟨B, #[.slice (some ⟨b, o, none⟩) es.length cap, .slice q2 ds.length cap2], 35⟩ :: (h1 ++ h2)) hA5.own (by have := SrcAt.old (hp := h5 ++ (⟨X, #[.slice q3 es.length c3, .slice q4 ds.length c4], 35⟩ :: ⟨R, #[.slice none 0 0, .slice none 0 0], 35⟩ :: ⟨B, #[.slice (some ⟨b, o, none⟩) es.length cap, .slice q2 ds.length cap2], 35⟩ :: (h1 ++ h2))) hsl7 (fun c hc => (hall c hc).1); exact this) (fun v6 h6 hO6 => ?_) (by simp only [List.length_map, List.length_take, List.length_drop]; omega) hall (List.Perm.refl _)
  rw [← List.map_append, show es.take i ++ es.drop (i + 1) = es.eraseIdx i from (List.eraseIdx_eq_take_drop_succ ..).symm] at hO6
  obtain ⟨q6, c6, e6⟩ := hO6.opened
  rw [List.length_map] at e6
  subst e6
  refine ops_perm (_ ++ h6) List.perm_append_comm ?_
  simp only [List.cons_append, List.nil_append]
  refine run ?_
  refine finA (cs := #[.slice q6 (es.eraseIdx i).length c6, .slice q4 ds.length c4]) ⟨_, h6, _, h2, rfl, hO6, hA2, by (refine hpLe_cnt fun a => ?_; simp only [cntB_app, cntB_cons, cntB_nil]; omega)⟩
end Go.Proofs.YtdaenalnmdmflaaGreat
namespace Go.Proofs.YtdaenalnmdmflaaGreat
open Go.RowKit
set_option linter.unusedVariables false
set_option linter.unusedSimpArgs false
set_option maxRecDepth 20000
structure PkD where
  cpu : Int
  fill : Bool
  mids : Bool
  walk : Bool
  drop : Int
  use : Bool
instance : Inhabited PkD := ⟨⟨0, false, false, false, 0, false⟩⟩
abbrev pkV (p : PkD) : List Value := [.int .i64 p.cpu, .bool p.fill, .bool p.mids, .bool p.walk, .int .i64 p.drop, .bool p.use]
structure RtD where
  on : Bool
  frame : Int
  tag : Int
instance : Inhabited RtD := ⟨⟨false, 0, 0⟩⟩
abbrev rtV (r : RtD) : List Value := [.bool r.on, .int .i64 r.frame, .int .i64 r.tag]
def RtD.may (r : RtD) : Bool := PtD.btw r.frame 0 4095 && PtD.btw r.tag 0 15
structure AcS where
  es : List EnD
  rd : List Int
structure AtD where
  r : Bool
  w : Bool
  x : Bool
  af : Bool
  ng : Bool
def noAt : AtD := ⟨false, false, false, false, false⟩
abbrev atV (a : AtD) : List Value := [.bool a.r, .bool a.w, .bool a.x, .bool a.af, .bool a.ng, .int .i64 0]
structure MdR where
  s : AcS
  n : Int
  a : AtD
  f : FtD
structure StR where
  s : AcS
  n : Int
  f : FtD
structure AcC where
  ws : List Nat
  one : RtD
  two : RtD
  pk : PkD
  page : Nat
  acc : Int
def entM (tag : Int) (mid : Nat) (h : HtD) : EnD := ⟨2, tag, 0, true, mid, 0, h.frame, 0, h.r, h.w, h.x, h.af, h.ng, 0⟩
def entW (c : AcC) (level : Nat) (frame : Int) : EnD := ⟨3, c.two.tag, c.one.tag, false, ((cutN (level - 1) c.page : Nat) : Int), level, frame, 0, false, false, false, false, false, 0⟩
def entH (c : AcC) (n : Int) (mid : Nat) (d : DsD) (a : AtD) : EnD := ⟨1, c.two.tag, c.one.tag, !(d.ng || a.ng), c.page, 0, n, mid, d.r && a.r, d.w && a.w, d.x && a.x, d.af && a.af, d.ng || a.ng, 0⟩
def midF (c : AcC) (s : AcS) (mid : Nat) (W : WlD) : MdR :=
  bif !decide (W.f.kind = 0) then ⟨⟨s.es, s.rd ++ W.rd⟩, 0, noAt, W.f⟩
  else ⟨⟨bif c.pk.mids then fillL s.es (entM c.two.tag mid W.h) else s.es, s.rd ++ W.rd⟩, W.h.frame, ⟨W.h.r, W.h.w, W.h.x, W.h.af, W.h.ng⟩, W.f⟩
def midI (c : AcC) (s : AcS) (mid : Nat) (acc : Int) : Int := idxI (pMid c.two.tag mid acc) s.es
def atE (e : EnD) : AtD := ⟨e.r, e.w, e.x, e.af, e.ng⟩
def midA (c : AcC) (s : AcS) (mid : Nat) (acc : Int) : MdR :=
  bif c.pk.use && decide (0 ≤ midI c s mid acc) then ⟨s, (s.es.getD (midI c s mid acc).toNat default).frame, atE (s.es.getD (midI c s mid acc).toNat default), noFt⟩
  else midF c s mid (midL c.ws true c.two.frame mid acc)
def tblA (c : AcC) (s : AcS) (mid level : Nat) : StR :=
  bif !decide ((midA c s mid 0).f.kind = 0) then ⟨(midA c s mid 0).s, 0, { (midA c s mid 0).f with walk := true }⟩
  else ⟨⟨bif decide (0 < level) && c.pk.walk then fillL (midA c s mid 0).s.es (entW c level (midA c s mid 0).n) else (midA c s mid 0).s.es, (midA c s mid 0).s.rd⟩, (midA c s mid 0).n, noFt⟩
def leafM (c : AcC) (level : Nat) (d : DsD) : Nat := d.frame.toNat + c.page % coversN level
def leafA (c : AcC) (s : AcS) (level : Nat) (d : DsD) : StR :=
  bif !decide ((flagL d.r d.w d.x d.af c.acc 1 level c.page).kind = 0) then ⟨s, 0, flagL d.r d.w d.x d.af c.acc 1 level c.page⟩
  else bif !decide ((midA c s (leafM c level d) c.acc).f.kind = 0) then ⟨(midA c s (leafM c level d) c.acc).s, 0, (midA c s (leafM c level d) c.acc).f⟩
  else ⟨⟨bif c.pk.fill then fillL (midA c s (leafM c level d) c.acc).s.es (entH c (midA c s (leafM c level d) c.acc).n (leafM c level d) d (midA c s (leafM c level d) c.acc).a) else (midA c s (leafM c level d) c.acc).s.es, (midA c s (leafM c level d) c.acc).s.rd⟩, (midA c s (leafM c level d) c.acc).n, noFt⟩
def stgA (c : AcC) : Nat → Nat → Int → AcS → StR
  | 0, level, frame, s => ⟨s, 0, noFt⟩
  | k + 1, level, frame, s =>
    let d := dSt c.ws 1 (atN frame level c.page) level
    let s1 : AcS := ⟨s.es, s.rd ++ [frame]⟩
    bif decide (d.kind = 1) then (bif !decide ((tblA c s1 d.frame.toNat (level + 1)).f.kind = 0) then ⟨(tblA c s1 d.frame.toNat (level + 1)).s, 0, (tblA c s1 d.frame.toNat (level + 1)).f⟩ else stgA c k (level + 1) (tblA c s1 d.frame.toNat (level + 1)).n (tblA c s1 d.frame.toNat (level + 1)).s)
    else bif decide (d.kind = 0) then ⟨s1, 0, ⟨2, 1, level, false, c.page⟩⟩
    else leafA c s1 level d
def rootA (c : AcC) (s : AcS) : StR := bif !decide ((tblA c s c.one.frame.toNat 0).f.kind = 0) then ⟨(tblA c s c.one.frame.toNat 0).s, 0, (tblA c s c.one.frame.toNat 0).f⟩ else stgA c 4 0 (tblA c s c.one.frame.toNat 0).n (tblA c s c.one.frame.toNat 0).s
def wholeI (c : AcC) (es : List EnD) : Int := idxI (pWhole c.two.tag c.one.tag c.page c.acc) es
def walkI (c : AcC) (es : List EnD) : Int := bestI es (pWlk c.two.tag c.one.tag c.page) es.length
def dropL (es : List EnD) (i : Int) : List EnD := bif decide (0 ≤ i) && decide (i < (es.length : Int)) then es.eraseIdx i.toNat else es
def pageW (c : AcC) (es : List EnD) : StR :=
  bif c.pk.use && decide (0 ≤ walkI c es) then stgA c (4 - (es.getD (walkI c es).toNat default).level.toNat) (es.getD (walkI c es).toNat default).level.toNat (es.getD (walkI c es).toNat default).frame ⟨es, []⟩
  else rootA c ⟨es, []⟩
def pageB (c : AcC) (es : List EnD) : StR :=
  bif !c.one.on then ⟨(midA c ⟨es, []⟩ c.page c.acc).s, (midA c ⟨es, []⟩ c.page c.acc).n, (midA c ⟨es, []⟩ c.page c.acc).f⟩
  else bif c.pk.use && decide (0 ≤ wholeI c es) then ⟨⟨es, []⟩, (es.getD (wholeI c es).toNat default).frame, noFt⟩
  else pageW c es
def pageA (c : AcC) (es : List EnD) : StR := pageB c (dropL es c.pk.drop)
structure EsOk (n : Nat) (es : List EnD) (ds : List IvD) : Prop where
  tlb : tlbOk es ds = true
  held : ∀ e ∈ es, hasF n e.frame = true
theorem tlb_may {es : List EnD} {ds : List IvD} (h : tlbOk es ds = true) : (∀ e ∈ es, e.may = true) ∧ es.length ≤ 8 ∧ ds.length ≤ 8 := by
  simp only [tlbOk, Bool.and_eq_true, decide_eq_true_eq] at h
  refine ⟨fun e he => ?_, h.1.2, h.2⟩
  obtain ⟨j, hj, rfl⟩ := List.getElem_of_mem he
  have := List.all_eq_true.1 h.1.1.1 j (List.mem_range.2 hj)
  simp only [enOk, Bool.and_eq_true] at this
  rw [List.getD_eq_getElem?_getD, List.getElem?_eq_getElem hj] at this
  exact this.1
theorem EsOk.may {n : Nat} {es : List EnD} {ds : List IvD} (h : EsOk n es ds) : (∀ e ∈ es, e.may = true) ∧ es.length ≤ 8 ∧ ds.length ≤ 8 := tlb_may h.tlb
theorem fill_ok {n : Nat} {es : List EnD} {ds : List IvD} {e : EnD} (h : EsOk n es ds) (hm : e.may = true) (hf : hasF n e.frame = true) : EsOk n (fillL es e) ds := by
  unfold fillL
  cases hc : (!(es.any fun t => decide (t = e)) && decide (es.length < 8)) with
  | false => exact h
  | true =>
    rw [Bool.and_eq_true, Bool.not_eq_true', decide_eq_true_eq] at hc
    obtain ⟨hno, h8⟩ := hc
    rw [cond_true]
    refine ⟨?_, fun x hx => ?_⟩
    · have ht := h.tlb
      simp only [tlbOk, Bool.and_eq_true, decide_eq_true_eq] at ht ⊢
      obtain ⟨⟨⟨h1, h2⟩, h3⟩, h4⟩ := ht
      refine ⟨⟨⟨all_upto fun j hj => ?_, h2⟩, by simp; omega⟩, h4⟩
      simp only [List.length_append, List.length_singleton] at hj
      by_cases hje : j < es.length
      · have := List.all_eq_true.1 h1 j (List.mem_range.2 hje)
        unfold enOk at this ⊢
        rw [List.take_append_of_le_length (by omega), show (es ++ [e]).getD j default = es.getD j default by simp [List.getD_eq_getElem?_getD, List.getElem?_append_left hje]]
        exact this
      · have hje2 : j = es.length := by omega
        subst hje2
        unfold enOk
        rw [List.take_left, show (es ++ [e]).getD es.length default = e by simp [List.getD_eq_getElem?_getD]]
        rw [hm, hno]; rfl
    · rcases List.mem_append.1 hx with hx | hx
      · exact h.held x hx
      · obtain rfl := List.mem_singleton.1 hx; exact hf
theorem tlb_iff {es : List EnD} {ds : List IvD} : tlbOk es ds = true ↔ (∀ e ∈ es, e.may = true) ∧ es.Nodup ∧ ds.all IvD.may = true ∧ es.length ≤ 8 ∧ ds.length ≤ 8 := by
  constructor
  · intro h
    have hm := tlb_may h
    simp only [tlbOk, Bool.and_eq_true, decide_eq_true_eq] at h
    refine ⟨hm.1, ?_, h.1.1.2, hm.2⟩
    rw [List.nodup_iff_pairwise_ne, List.pairwise_iff_getElem]
    intro i j hi hj hij
    have h1 := List.all_eq_true.1 h.1.1.1 j (List.mem_range.2 hj)
    simp only [enOk, Bool.and_eq_true, Bool.not_eq_true', List.any_eq_false] at h1
    have h2 := h1.2 es[i] (List.mem_take_iff_getElem.2 ⟨i, by omega, rfl⟩)
    rw [List.getD_eq_getElem?_getD, List.getElem?_eq_getElem hj] at h2
    simpa using h2
  · rintro ⟨h1, h2, h3, h4, h5⟩
    simp only [tlbOk, Bool.and_eq_true, decide_eq_true_eq]
    refine ⟨⟨⟨all_upto fun j hj => ?_, h3⟩, h4⟩, h5⟩
    simp only [enOk, Bool.and_eq_true, Bool.not_eq_true', List.any_eq_false]
    refine ⟨h1 _ (getD_mem hj), fun x hx => ?_⟩
    obtain ⟨i, hi, rfl⟩ := List.mem_take_iff_getElem.1 hx
    rw [List.nodup_iff_pairwise_ne, List.pairwise_iff_getElem] at h2
    have := h2 i j (by omega) hj (by omega)
    rw [List.getD_eq_getElem?_getD, List.getElem?_eq_getElem hj]
    simpa using this
theorem tlb_erase {es : List EnD} {ds : List IvD} (h : tlbOk es ds = true) (i : Nat) : tlbOk (es.eraseIdx i) ds = true := by
  obtain ⟨h1, h2, h3, h4, h5⟩ := tlb_iff.1 h
  refine tlb_iff.2 ⟨fun e he => h1 e (List.mem_of_mem_eraseIdx he), h2.sublist (List.eraseIdx_sublist ..), h3, Nat.le_trans (List.eraseIdx_sublist ..).length_le h4, h5⟩
theorem drop_ok {n : Nat} {es : List EnD} {ds : List IvD} (h : EsOk n es ds) (i : Int) : EsOk n (dropL es i) ds := by
  unfold dropL
  cases hc : (decide (0 ≤ i) && decide (i < (es.length : Int))) with
  | false => exact h
  | true =>
    rw [cond_true]
    refine ⟨tlb_erase h.tlb _, fun x hx => h.held x (List.mem_of_mem_eraseIdx hx)⟩
theorem may_ng {level : Nat} {d : DsD} (hd : d.may 2 level = true) : d.ng = false := by
  unfold DsD.may at hd
  cases h0 : decide (d.kind = 0) with
  | true =>
    rw [h0] at hd
    simp only [cond_true, DsD.bare, Bool.and_eq_true, Bool.not_eq_true'] at hd
    simp_all
  | false =>
    rw [h0] at hd
    cases h1 : decide (d.kind = 1) with
    | true =>
      rw [h1] at hd
      simp only [cond_true, cond_false, DsD.bare, Bool.and_eq_true, Bool.not_eq_true'] at hd
      simp_all
    | false =>
      rw [h1] at hd
      simp only [cond_false] at hd
      simp_all
theorem endL_ok {n : Nat} {stage : Int} {page level : Nat} {d : DsD} {rd : List Int} (hd : d.may stage level = true) (hk : (endL n stage page level d rd).f.kind = 0) : hasF n (endL n stage page level d rd).h.frame = true ∧ (endL n stage page level d rd).f = noFt ∧ (stage = 2 → (endL n stage page level d rd).h.ng = false) := by
  unfold endL at hk ⊢
  cases h0 : decide (d.kind = 0) with
  | true => rw [h0] at hk; simp at hk
  | false =>
    rw [h0] at hk
    simp only [cond_false] at hk ⊢
    cases h1 : hasF n (d.frame + ((page % coversN level : Nat) : Int)) with
    | false => rw [h1] at hk; simp at hk
    | true =>
      refine ⟨h1, rfl, fun hs => ?_⟩
      subst hs
      exact may_ng hd
theorem wlk_ok {ws : List Nat} {stage : Int} {page : Nat} : ∀ (k level : Nat) (f : Int) (rd : List Int), (wlk ws stage page k level f rd).f.kind = 0 → hasF ws.length (wlk ws stage page k level f rd).h.frame = true ∧ (wlk ws stage page k level f rd).f = noFt ∧ (stage = 2 → (wlk ws stage page k level f rd).h.ng = false) := by
  intro k
  induction k with
  | zero => intro level f rd h; simp [wlk] at h
  | succ k ih =>
    intro level f rd h
    rw [wlk] at h ⊢
    cases hh : hasF ws.length f with
    | false => rw [hh] at h; simp at h
    | true =>
      rw [hh] at h
      simp only [cond_true] at h ⊢
      cases h1 : decide ((dSt ws stage (atN f level page) level).kind = 1) with
      | true => rw [h1] at h; exact ih _ _ _ h
      | false => rw [h1] at h; exact endL_ok (dSt_may _ _ _ _) h
theorem flag_zero {r w x af : Bool} {acc stage level page : Int} (h : (flagL r w x af acc stage level page).kind = 0) : flagL r w x af acc stage level page = noFt := by
  unfold flagL at h ⊢
  cases af with
  | false => simp at h
  | true =>
    cases hm : mayA r w x acc with
    | false => rw [hm] at h; simp at h
    | true => rfl
theorem midL_ok {ws : List Nat} {frame : Int} {mid : Nat} {acc : Int} (h : (midL ws true frame mid acc).f.kind = 0) : hasF ws.length (midL ws true frame mid acc).h.frame = true ∧ (midL ws true frame mid acc).f = noFt ∧ (midL ws true frame mid acc).h.ng = false := by
  simp only [midL, Bool.not_true, cond_false, midE] at h ⊢
  cases hg : decide ((midG (walk5 ws 2 frame mid) mid acc).kind = 0) with
  | false =>
    rw [hg] at h
    simp only [Bool.not_false, cond_true] at h
    simp [h] at hg
  | true =>
    simp only [Bool.not_true, cond_false]
    have hk : (midG (walk5 ws 2 frame mid) mid acc).kind = 0 := by simpa using hg
    unfold midG at hk ⊢
    cases hw : decide ((walk5 ws 2 frame mid).f.kind = 0) with
    | false => rw [hw] at hk; simp only [cond_false] at hk; simp [hk] at hw
    | true =>
      rw [hw] at hk
      simp only [cond_true] at hk ⊢
      obtain ⟨h1, h2, h3⟩ := wlk_ok 4 0 frame [] (of_decide_eq_true hw)
      exact ⟨h1, flag_zero hk, h3 rfl⟩
end Go.Proofs.YtdaenalnmdmflaaGreat
namespace Go.Proofs.YtdaenalnmdmflaaGreat
open Go.RowKit
set_option linter.unusedVariables false
set_option linter.unusedSimpArgs false
set_option maxRecDepth 20000
abbrev AftB (w w' : World) : Prop := ∃ hp, Good w [] hp w'
attribute [local irreducible] Hy St Ops DH DHF
theorem indexFNum_e {w : World} {F : Nat} {us : List Value} (p : Int → Bool) (xs : List (Int)) (v : Value) (h : SlAt w v 1 (xs.map inV)) (hF : ∀ x, x ∈ xs → ∀ w', AftB w w' → Fn Tryz.prog F ([] ++ [Value.int .i64 x] ++ us).toArray w' [] (fun u _ => u = .bool (p x))) (hcal : mem calN F = true := by rfl) :
    Fn Tryz.prog 128 [v, .func (.func F) [].toArray us.toArray].toArray w [] (fun u _ => u = .int .i64 (idxI p xs)) := by
  obtain ⟨q, cap, rfl, hne, hle⟩ := h.opened
  refine enter Tryz.func128 ?_
  refine run ?_
  refine loopS (σ := Nat) (fun k => [(8, .int .i64 (k : Int))]) (fun _ => []) (fun k => k ≤ xs.length ∧ ∀ j, j < k → p (xs.getD j default) = false) (fun k => xs.length - k) 0 ⟨Nat.zero_le _, fun j hj => absurd hj (by omega)⟩ ?_
  rintro k m rfl ⟨hk, hno⟩
  refine run ?_
  refine st_cond _ rfl (fun hc => ?_) (fun hc => ?_)
  · have hlt : k < xs.length := by simpa using hc
    obtain ⟨b, o, rfl⟩ := hne (by intro e; subst e; simp at hlt)
    have hr := rangeAt_cell0 (h.row hlt)
    simp only [Nat.mul_one] at hr
    refine run ?_
    refine callF (fun wc hG => hF (xs.getD k default) (getD_mem hlt) wc ⟨_, hG⟩) (hcal := hcal) ?_
    refine run ?_
    refine st_cond _ rfl (fun hp => ?_) (fun hp => ?_)
    · refine run ?_
      refine fin1 ?_
      rw [idxI_at hlt hp hno]
    · refine run ?_
      refine nextS (k + 1) ⟨hlt, fun j hj => ?_⟩
      rcases Nat.lt_succ_iff_lt_or_eq.1 hj with hj | rfl
      · exact hno j hj
      · exact hp
  · have hge : k = xs.length := by simp at hc; omega
    subst hge
    refine run ?_
    refine fin1 ?_
    rw [idxI_none hno]
theorem indexFIv_e {w : World} {F : Nat} {us : List Value} (p : IvD → Bool) (xs : List (IvD)) (v : Value) (h : SlAt w v 4 (xs.map ivV)) (hF : ∀ x, x ∈ xs → ∀ w', AftB w w' → Fn Tryz.prog F ([] ++ [Value.agg (ivV x).toArray] ++ us).toArray w' [] (fun u _ => u = .bool (p x))) (hcal : mem calN F = true := by rfl) :
    Fn Tryz.prog 101 [v, .func (.func F) [].toArray us.toArray].toArray w [] (fun u _ => u = .int .i64 (idxI p xs)) := by
  obtain ⟨q, cap, rfl, hne, hle⟩ := h.opened
  refine enter Tryz.func101 ?_
  refine run ?_
  refine loopS (σ := Nat) (fun k => [(8, .int .i64 (k : Int))]) (fun _ => []) (fun k => k ≤ xs.length ∧ ∀ j, j < k → p (xs.getD j default) = false) (fun k => xs.length - k) 0 ⟨Nat.zero_le _, fun j hj => absurd hj (by omega)⟩ ?_
  rintro k m rfl ⟨hk, hno⟩
  refine run ?_
  refine st_cond _ rfl (fun hc => ?_) (fun hc => ?_)
  · have hlt : k < xs.length := by simpa using hc
    obtain ⟨b, o, rfl⟩ := hne (by intro e; subst e; simp at hlt)
    have hr := h.row hlt
    refine run ?_
    refine callF (fun wc hG => hF (xs.getD k default) (getD_mem hlt) wc ⟨_, hG⟩) (hcal := hcal) ?_
    refine run ?_
    refine st_cond _ rfl (fun hp => ?_) (fun hp => ?_)
    · refine run ?_
      refine fin1 ?_
      rw [idxI_at hlt hp hno]
    · refine run ?_
      refine nextS (k + 1) ⟨hlt, fun j hj => ?_⟩
      rcases Nat.lt_succ_iff_lt_or_eq.1 hj with hj | rfl
      · exact hno j hj
      · exact hp
  · have hge : k = xs.length := by simp at hc; omega
    subst hge
    refine run ?_
    refine fin1 ?_
    rw [idxI_none hno]
theorem indexFEn_e {w : World} {F : Nat} {us : List Value} (p : EnD → Bool) (xs : List (EnD)) (v : Value) (h : SlAt w v 14 (xs.map enV)) (hF : ∀ x, x ∈ xs → ∀ w', AftB w w' → Fn Tryz.prog F ([] ++ [Value.agg (enV x).toArray] ++ us).toArray w' [] (fun u _ => u = .bool (p x))) (hcal : mem calN F = true := by rfl) :
    Fn Tryz.prog 84 [v, .func (.func F) [].toArray us.toArray].toArray w [] (fun u _ => u = .int .i64 (idxI p xs)) := by
  obtain ⟨q, cap, rfl, hne, hle⟩ := h.opened
  refine enter Tryz.func84 ?_
  refine run ?_
  refine loopS (σ := Nat) (fun k => [(8, .int .i64 (k : Int))]) (fun _ => []) (fun k => k ≤ xs.length ∧ ∀ j, j < k → p (xs.getD j default) = false) (fun k => xs.length - k) 0 ⟨Nat.zero_le _, fun j hj => absurd hj (by omega)⟩ ?_
  rintro k m rfl ⟨hk, hno⟩
  refine run ?_
  refine st_cond _ rfl (fun hc => ?_) (fun hc => ?_)
  · have hlt : k < xs.length := by simpa using hc
    obtain ⟨b, o, rfl⟩ := hne (by intro e; subst e; simp at hlt)
    have hr := h.row hlt
    refine run ?_
    refine callF (fun wc hG => hF (xs.getD k default) (getD_mem hlt) wc ⟨_, hG⟩) (hcal := hcal) ?_
    refine run ?_
    refine st_cond _ rfl (fun hp => ?_) (fun hp => ?_)
    · refine run ?_
      refine fin1 ?_
      rw [idxI_at hlt hp hno]
    · refine run ?_
      refine nextS (k + 1) ⟨hlt, fun j hj => ?_⟩
      rcases Nat.lt_succ_iff_lt_or_eq.1 hj with hj | rfl
      · exact hno j hj
      · exact hp
  · have hge : k = xs.length := by simp at hc; omega
    subst hge
    refine run ?_
    refine fin1 ?_
    rw [idxI_none hno]
theorem containsFNum_e {w : World} {F : Nat} {us : List Value} (p : Int → Bool) (xs : List (Int)) (v : Value) (h : SlAt w v 1 (xs.map inV)) (hF : ∀ x, x ∈ xs → ∀ w', AftB w w' → Fn Tryz.prog F ([] ++ [Value.int .i64 x] ++ us).toArray w' [] (fun u _ => u = .bool (p x))) (hcal : mem calN F = true := by rfl) :
    Fn Tryz.prog 116 [v, .func (.func F) [].toArray us.toArray].toArray w [] (fun u _ => u = .bool (xs.any p)) := by
  refine enter Tryz.func116 ?_
  refine run ?_
  refine callE (fun wc hG => indexFNum_e p xs v (h.good hG) (fun x hx w' ha => hF x hx w' ?_) hcal) ?_
  · obtain ⟨hp, hg⟩ := ha
    exact ⟨_, hG.trans hg⟩
  refine run ?_
  refine fin1 ?_
  rw [← idxI_ge]
theorem containsFIv_e {w : World} {F : Nat} {us : List Value} (p : IvD → Bool) (xs : List (IvD)) (v : Value) (h : SlAt w v 4 (xs.map ivV)) (hF : ∀ x, x ∈ xs → ∀ w', AftB w w' → Fn Tryz.prog F ([] ++ [Value.agg (ivV x).toArray] ++ us).toArray w' [] (fun u _ => u = .bool (p x))) (hcal : mem calN F = true := by rfl) :
    Fn Tryz.prog 81 [v, .func (.func F) [].toArray us.toArray].toArray w [] (fun u _ => u = .bool (xs.any p)) := by
  refine enter Tryz.func81 ?_
  refine run ?_
  refine callE (fun wc hG => indexFIv_e p xs v (h.good hG) (fun x hx w' ha => hF x hx w' ?_) hcal) ?_
  · obtain ⟨hp, hg⟩ := ha
    exact ⟨_, hG.trans hg⟩
  refine run ?_
  refine fin1 ?_
  rw [← idxI_ge]
theorem cloneEntries_e {w : World} (v : Value) (xs : List (List Value)) (h : SlAt w v 14 xs) (hall : ∀ c ∈ xs, c.length = 14 ∧ c.all (·.oneCell') = true) (hl : xs.length < 1000000) : Fn Tryz.prog 57 [v].toArray w [] (fun u hn => Own 88 14 u hn xs) := by
  obtain ⟨⟨q, cap, rfl, hne⟩, _⟩ := h
  refine enter Tryz.func57 ?_
  refine run ?_
  refine op1 (by rfl) (x_nilS tb_ok rfl rfl) ?_
  refine run ?_
  refine st_cond _ rfl (fun hp => ?_) (fun hp => ?_)
  · obtain rfl : xs = [] := by
      rcases Classical.em (xs = []) with h | h
      · exact h
      · obtain ⟨b, o, rfl, _⟩ := hne h; cases hp
    refine run ?_
    refine fin1 ?_
    exact ⟨by simp, .inl ⟨rfl, rfl, rfl⟩⟩
  refine run ?_
  refine z_bslice0 tb_ok (by rfl) (by rfl) (fun g => ?_)
  refine run ?_
  rcases Classical.em (xs = []) with rfl | hx
  · cases q with
    | none => cases hp
    | some q =>
    refine op1 (by rfl) (x_append0 tb_ok (by_ := 0) rfl rfl rfl (Nat.le_refl _)) ?_
    refine run ?_
    refine fin1 ?_
    exact ⟨by simp, .inr ⟨g, 0, #[], rfl, rfl, ⟨rfl, Nat.le_refl _, by decide, rfl, rfl⟩⟩⟩
  · obtain ⟨b, o, rfl, hr⟩ := hne hx
    refine z_appendAll tb_ok (by rfl) rfl ⟨rfl, Nat.le_refl _, by decide, rfl, rfl⟩ rfl rfl rfl rfl rfl rfl (.refl _) rfl hall hr (by simp) hl (fun v' ha' hA => ?_)
    refine run ?_
    refine fin1 ?_
    rw [List.append_nil]
    exact hA
theorem cloneInvals_e {w : World} (v : Value) (xs : List (List Value)) (h : SlAt w v 4 xs) (hall : ∀ c ∈ xs, c.length = 4 ∧ c.all (·.oneCell') = true) (hl : xs.length < 1000000) : Fn Tryz.prog 58 [v].toArray w [] (fun u hn => Own 94 4 u hn xs) := by
  obtain ⟨⟨q, cap, rfl, hne⟩, _⟩ := h
  refine enter Tryz.func58 ?_
  refine run ?_
  refine op1 (by rfl) (x_nilS tb_ok rfl rfl) ?_
  refine run ?_
  refine st_cond _ rfl (fun hp => ?_) (fun hp => ?_)
  · obtain rfl : xs = [] := by
      rcases Classical.em (xs = []) with h | h
      · exact h
      · obtain ⟨b, o, rfl, _⟩ := hne h; cases hp
    refine run ?_
    refine fin1 ?_
    exact ⟨by simp, .inl ⟨rfl, rfl, rfl⟩⟩
  refine run ?_
  refine z_bslice0 tb_ok (by rfl) (by rfl) (fun g => ?_)
  refine run ?_
  rcases Classical.em (xs = []) with rfl | hx
  · cases q with
    | none => cases hp
    | some q =>
    refine op1 (by rfl) (x_append0 tb_ok (by_ := 0) rfl rfl rfl (Nat.le_refl _)) ?_
    refine run ?_
    refine fin1 ?_
    exact ⟨by simp, .inr ⟨g, 0, #[], rfl, rfl, ⟨rfl, Nat.le_refl _, by decide, rfl, rfl⟩⟩⟩
  · obtain ⟨b, o, rfl, hr⟩ := hne hx
    refine z_appendAll tb_ok (by rfl) rfl ⟨rfl, Nat.le_refl _, by decide, rfl, rfl⟩ rfl rfl rfl rfl rfl rfl (.refl _) rfl hall hr (by simp) hl (fun v' ha' hA => ?_)
    refine run ?_
    refine fin1 ?_
    rw [List.append_nil]
    exact hA
theorem indexEn_e {w : World} (a : EnD) (xs : List EnD) (v : Value) (h : SlAt w v 14 (xs.map enV)) :
    Fn Tryz.prog 100 [v, .agg (enV a).toArray].toArray w [] (fun u _ => u = .int .i64 (idxI (fun t => decide (t = a)) xs)) := by
  obtain ⟨q, cap, rfl, hne, hle⟩ := h.opened
  refine enter Tryz.func100 ?_
  refine run ?_
  intro B
  refine run ?_
  refine loopS (σ := Nat) (fun k => [(8, .int .i64 (k : Int))]) (fun _ => [⟨B, (enV a).toArray, 88⟩]) (fun k => k ≤ xs.length ∧ ∀ j, j < k → decide (xs.getD j default = a) = false) (fun k => xs.length - k) 0 ⟨Nat.zero_le _, fun j hj => absurd hj (by omega)⟩ ?_
  rintro k m rfl ⟨hk, hno⟩
  refine run ?_
  refine st_cond _ rfl (fun hc => ?_) (fun hc => ?_)
  · have hlt : k < xs.length := by simpa using hc
    obtain ⟨b, o, rfl⟩ := hne (by intro e; subst e; simp at hlt)
    have hr := h.row hlt
    refine run ?_
    refine drawAll ?_
    refine runD ?_
    refine run ?_
    have hq : ∀ x : EnD, eqLeaves (enV a) (enV x) = decide (x = a) := fun x => by rw [eqEn, Bool.eq_iff_iff, decide_eq_true_eq, decide_eq_true_eq]; exact eq_comm
    try rw [hq]
    try rw [eqEn]
    refine st_cond _ rfl (fun hp => ?_) (fun hp => ?_)
    · refine run ?_
      refine fin1 ?_
      rw [idxI_at hlt hp hno]
    · refine run ?_
      refine nextS (k + 1) ⟨hlt, fun j hj => ?_⟩
      rcases Nat.lt_succ_iff_lt_or_eq.1 hj with hj | rfl
      · exact hno j hj
      · exact hp
  · have hge : k = xs.length := by simp at hc; omega
    subst hge
    refine run ?_
    refine fin1 ?_
    rw [idxI_none hno]
theorem containsEn_e {w : World} (a : EnD) (xs : List EnD) (v : Value) (h : SlAt w v 14 (xs.map enV)) :
    Fn Tryz.prog 80 [v, .agg (enV a).toArray].toArray w [] (fun u _ => u = .bool (xs.any fun t => decide (t = a))) := by
  refine enter Tryz.func80 ?_
  refine run ?_
  intro B
  refine run ?_
  refine callE (fun wc hG => indexEn_e a xs v (h.good hG)) ?_
  refine run ?_
  refine fin1 ?_
  rw [← idxI_ge]
end Go.Proofs.YtdaenalnmdmflaaGreat
namespace Go.Proofs.YtdaenalnmdmflaaGreat
open Go.RowKit
set_option linter.unusedVariables false
set_option linter.unusedSimpArgs false
set_option maxRecDepth 20000
section
variable {P : Program} {n : Nat} {w0 : World} {mu : List Nat} {l : Fm} {hp : Hp} {dd : Option Tmp} {ty : TypeId} {pos : String} {af : Array Edge} {gg : Option (Nat × Bool)} {t u : TypeId} {x y : Operand}
theorem x_andNotI {p q : Int} (hx : ev l x = some (.int .i64 p)) (hy : ev l y = some (.int .i64 q)) : Hy P n w0 mu l hp ⟨dd, .binOp .andNot t x y u, ty, pos, af, gg⟩ (.int .i64 (bits .andNot .i64 p q)) :=
  hy_run fun ac w hk _ => by
    simp only [execOp, hk.ev hx, hk.ev hy]
    simp [eqGuard_andNot, binOp_andNot, intBits_andNot]
end
theorem cut_bits : ∀ l : Nat, l < 3 → ∀ p : Nat, p < 4096 → bits .andNot .i64 (p : Int) ((coversN l : Nat) - 1 : Int) = ((cutN l p : Nat) : Int) := by decide +kernel
end Go.Proofs.YtdaenalnmdmflaaGreat
namespace Go.Proofs.YtdaenalnmdmflaaGreat
open Go.RowKit
set_option linter.unusedVariables false
set_option linter.unusedSimpArgs false
set_option maxRecDepth 20000
attribute [local irreducible] Hy St Ops DH DHF
theorem within1_e (m x : Int) (B : Nat) (w : World) (hB : w.cell? ⟨B, 0, none⟩ = some (.int .i64 m)) : Fn Tryz.prog 117 ([] ++ [Value.int .i64 x] ++ [Value.pointer (some ⟨B, 0, none⟩)]).toArray w [] (fun u _ => u = .bool (!PtD.btw x 0 m)) := by
  refine enter Tryz.func117 ?_
  refine runG ?_
  refine fin1 ?_
  unfold PtD.btw
  rw [Bool.not_and]
  congr 1
  rw [← decide_not, ← decide_not]
  congr 1 <;> (rw [Bool.eq_iff_iff, decide_eq_true_eq, decide_eq_true_eq]; omega)
theorem tWithin_e (m : Int) (xs : List Int) {w : World} {v : Value} (h : SlAt w v 1 (xs.map inV)) : Fn Tryz.prog 98 [.int .i64 m, v].toArray w [] (fun u _ => u = .bool (xs.all fun x => PtD.btw x 0 m)) := by
  refine enter Tryz.func98 ?_
  refine run ?_
  intro B
  refine run ?_
  refine callE (fun wc hG => containsFNum_e (us := [.pointer (some ⟨B, 0, none⟩)]) (fun x => !PtD.btw x 0 m) xs _ (h.good hG) (fun x _ w' ha => within1_e m x B w' ?_)) ?_
  · obtain ⟨hp, hg⟩ := ha
    exact hg.cell (by rw [cell_of_block (hG.here _ mh)]; rfl) (by simp)
  refine run ?_
  refine fin1 ?_
  rw [← List.not_all_eq_any_not, Bool.not_not]
theorem tBase_e (level : Nat) (h0 : 1 ≤ level) (h : level < 4) (page : Nat) (hp : page ≤ 4095) (w : World) : Fn Tryz.prog 99 [.int .i64 (page : Int), .int .i64 (level : Int)].toArray w [] (fun u _ => u = .int .i64 (cutN (level - 1) page : Int)) := by
  refine enter Tryz.func99 ?_
  refine run ?_
  have h9 := dbits_lt (show level - 1 < 4 by omega)
  have hc := cut_bits (level - 1) (by omega) page (by omega)
  have e3 : ∀ l : Nat, l < 4 → 1 ≤ l → (1 <<< (3 * (4 - l)) : Nat) = coversN (l - 1) := by decide
  refine op1 (by rfl) (x_shlI rfl rfl 1 (3 * (4 - level)) (by rfl) (by omega) (by omega) (by rw [e3 level h h0]; exact Nat.lt_of_le_of_lt h9.2.1 (by decide))) ?_
  rw [e3 level h h0]
  refine run ?_
  refine op1 (by rfl) (x_andNotI rfl rfl) ?_
  rw [hc]
  refine run ?_
  exact fin1 rfl
theorem enMay_e (e : EnD) (w : World) : Fn Tryz.prog 79 [.agg (enV e).toArray].toArray w [] (fun u _ => u = .bool e.may) := by
  have e1 : wnt false false = true := rfl
  refine enter Tryz.func79 ?_
  refine run ?_
  intro B Z
  refine callE (fun wc hG => tWithin_e 15 [e.vmid, e.asid] (lie_rows (xs := [inV e.vmid, inV e.asid]) (hG.here ⟨Z, #[.int .i64 e.vmid, .int .i64 e.asid], 3⟩ mh) (by simp [inV]) (by simp))) ?_
  refine runG ?_
  cases hq : ([e.vmid, e.asid].all fun x => PtD.btw x 0 15) with
  | false =>
    simp only [List.all_cons, List.all_nil, Bool.and_true] at hq
    refine opG (v := .slice none 0 0) (hy := fun hg => by cases hg) (h := ?_)
    refine runG ?_
    refine st_cond _ rfl (fun hc => ?_) (fun hc => by cases hc)
    refine run ?_
    refine fin1 ?_
    unfold EnD.may EnD.nums
    rw [hq]; simp
  | true =>
    simp only [List.all_cons, List.all_nil, Bool.and_true] at hq
    simp only [Bool.not_true, e1, gv_true]
    refine opsGT ?_ rfl
    refine runG ?_
    intro Z2
    refine callEG (fun hg wc hG => tWithin_e 4095 [e.page, e.frame, e.mid] (lie_rows (xs := [inV e.page, inV e.frame, inV e.mid]) (hG.here ⟨Z2, #[.int .i64 e.page, .int .i64 e.frame, .int .i64 e.mid], 3⟩ mh) (by simp [inV]) (by simp))) ?_
    refine runG ?_
    have hnn : (false || !([e.page, e.frame, e.mid].all fun x => PtD.btw x 0 4095) || !decide (e.soft = 0)) = !e.nums := by
      unfold EnD.nums
      rw [hq]
      simp [Bool.and_assoc, Bool.or_assoc]
    rw [hnn]
    refine st_cond _ rfl (fun hn => ?_) (fun hn => ?_)
    · refine run ?_
      refine fin1 ?_
      have hn' : e.nums = false := by simpa using hn
      simp [EnD.may, hn']
    have hn' : e.nums = true := by simpa using hn
    clear hnn
    have hb := hn'
    simp only [EnD.nums, Bool.and_eq_true, decide_eq_true_eq] at hb
    have hpz := btw_toNat hb.1.1.1.2
    refine run ?_
    refine st_cond _ rfl (fun hk => ?_) (fun hk => ?_)
    · refine run ?_
      refine fin1 ?_
      simp [EnD.may, hn', hk]
    refine run ?_
    refine st_cond _ rfl (fun hk2 => ?_) (fun hk2 => ?_)
    · refine runG ?_
      refine fin1 ?_
      simp [EnD.may, hn', hk, hk2]
    refine run ?_
    refine st_cond _ rfl (fun hk3 => ?_) (fun hk3 => ?_)
    · refine runG ?_
      refine drawN 36 ?_
      refine runDG ?_
      refine callDG (b := decide (1 ≤ e.level) && decide (e.level < 4)) (want := true) (v := .int .i64 (cutN (e.level.toNat - 1) e.page.toNat : Int)) (fun hg wc hG => by
        simp [wnt] at hg
        have h5 := tBase_e e.level.toNat (by omega) (by omega) e.page.toNat hpz.2 wc
        rw [hpz.1, show ((e.level.toNat : Nat) : Int) = e.level by omega] at h5
        exact h5) ?_
      refine runDG ?_
      refine run ?_
      refine fin1 ?_
      have hz : decide (e.page = ((cutN (e.level.toNat - 1) e.page.toNat : Nat) : Int)) = decide (cutN (e.level.toNat - 1) e.page.toNat = e.page.toNat) := by
        rw [Bool.eq_iff_iff, decide_eq_true_eq, decide_eq_true_eq]
        have := hpz.1
        omega
      have hl4 : decide (e.level < 4) = decide (e.level ≤ 3) := by rw [Bool.eq_iff_iff, decide_eq_true_eq, decide_eq_true_eq]; omega
      rw [hz, hl4]
      simp only [EnD.may, hn', hk3, show decide (e.kind = 1) = false by simpa using hk, show decide (e.kind = 2) = false by simpa using hk2, cond_false, cond_true, Bool.true_and, PtD.btw, EnD.bare, eqLeaves, eqLeaf]
      cases e.r <;> cases e.w <;> cases e.x <;> cases e.af <;> cases e.ng <;> simp
    · refine run ?_
      refine fin1 ?_
      simp [EnD.may, hn', hk, hk2, hk3]
theorem due_e (i : IvD) (w : World) : Fn Tryz.prog 83 [.agg (ivV i).toArray].toArray w [] (fun u _ => u = .bool i.may) := by
  have e1 : wnt true true = true := rfl
  refine enter Tryz.func83 ?_
  refine run ?_
  intro B
  refine runG ?_
  cases hq : (decide (1 ≤ i.kind) && decide (i.kind ≤ 6)) with
  | false =>
    refine opG (v := .slice none 0 0) (hy := fun hg => by cases hg) (h := ?_)
    refine runG ?_
    refine fin1 ?_
    simp only [IvD.may, PtD.btw, hq, Bool.false_and]
  | true =>
    simp only [e1, gv_true]
    refine opsGT ?_ rfl
    refine runG ?_
    intro Z
    refine callEG (fun hg wc hG => tWithin_e 15 [i.vmid, i.asid] (lie_rows (xs := [inV i.vmid, inV i.asid]) (hG.here ⟨Z, #[.int .i64 i.vmid, .int .i64 i.asid], 3⟩ mh) (by simp [inV]) (by simp))) ?_
    refine runG ?_
    simp only [Bool.true_and]
    refine runG ?_
    cases hq2 : ([i.vmid, i.asid].all fun x => PtD.btw x 0 15) with
    | false =>
      refine opG (v := .slice none 0 0) (hy := fun hg => by cases hg) (h := ?_)
      refine runG ?_
      refine fin1 ?_
      simp only [List.all_cons, List.all_nil, Bool.and_true] at hq2
      unfold IvD.may
      rw [Bool.and_assoc (PtD.btw i.kind 1 6), hq2]
      simp
    | true =>
      simp only [e1, gv_true]
      refine opsGT ?_ rfl
      refine runG ?_
      intro Z2
      refine callEG (fun hg wc hG => tWithin_e 4095 [i.page] (lie_rows (xs := [inV i.page]) (hG.here ⟨Z2, #[.int .i64 i.page], 3⟩ mh) (by simp [inV]) (by simp))) ?_
      refine runG ?_
      refine fin1 ?_
      simp only [List.all_cons, List.all_nil, Bool.and_true] at hq2
      unfold IvD.may
      rw [Bool.and_assoc (PtD.btw i.kind 1 6), show PtD.btw i.kind 1 6 = true from hq, hq2]
      simp
end Go.Proofs.YtdaenalnmdmflaaGreat
namespace Go.Proofs.YtdaenalnmdmflaaGreat
open Go.RowKit
set_option linter.unusedVariables false
set_option linter.unusedSimpArgs false
set_option maxRecDepth 20000
attribute [local irreducible] Hy St Ops DH DHF
theorem check1_e (i : IvD) (w : World) : Fn Tryz.prog 82 ([] ++ [Value.agg (ivV i).toArray] ++ []).toArray w [] (fun u _ => u = .bool (!i.may)) := by
  refine enter Tryz.func82 ?_
  refine run ?_
  intro B
  refine callE (fun wc hG => due_e i wc) ?_
  refine run ?_
  exact fin1 rfl
theorem tCheck_e {w : World} (es : List EnD) (ds : List IvD) (v u : Value) (h : SlAt w v 14 (es.map enV)) (hd : SlAt w u 4 (ds.map ivV)) (hcap : ∃ q c, v = .slice q es.length c ∧ es.length ≤ c) :
    Fn Tryz.prog 54 [.agg #[v, u]].toArray w [] (fun r _ => r = .int .i64 (bif tlbOk es ds then 0 else 1)) := by
  obtain ⟨q, cap, rfl, hne, hle⟩ := h.opened
  obtain ⟨q2, cap2, rfl, hne2, hle2⟩ := hd.opened
  replace hcap : es.length ≤ cap := by
    obtain ⟨_, _, e, hc⟩ := hcap
    injection e with _ _ e
    rw [e]; exact hc
  refine enter Tryz.func54 ?_
  refine run ?_
  intro B
  refine runG ?_
  refine st_cond _ rfl (fun hc => ?_) (fun hc => ?_)
  · refine run ?_
    refine fin1 ?_
    have : tlbOk es ds = false := by
      unfold tlbOk
      simp only [Bool.or_eq_true, decide_eq_true_eq] at hc
      have h2 : (decide (es.length ≤ 8) && decide (ds.length ≤ 8)) = false := by
        rcases hc with hc | hc
        · rw [decide_eq_false (p := es.length ≤ 8) (by omega), Bool.false_and]
        · rw [decide_eq_false (p := ds.length ≤ 8) (by omega), Bool.and_false]
      rw [Bool.and_assoc, h2, Bool.and_false]
    rw [this]; rfl
  have h8 : es.length ≤ 8 ∧ ds.length ≤ 8 := by
    simp at hc; omega
  refine run ?_
  refine loopS (σ := Nat) (fun k => [(18, .int .i64 (k : Int))]) (fun _ => [⟨B, #[.slice q es.length cap, .slice q2 ds.length cap2], 35⟩]) (fun k => k ≤ es.length ∧ ∀ j, j < k → enOk es j = true) (fun k => es.length - k) 0 ⟨Nat.zero_le _, fun j hj => absurd hj (by omega)⟩ ?_
  rintro k m rfl ⟨hk, hno⟩
  refine run ?_
  refine st_cond _ rfl (fun hc => ?_) (fun hc => ?_)
  · have hlt : k < es.length := by simpa using hc
    obtain ⟨b, o, rfl⟩ := hne (by intro e; subst e; simp at hlt)
    have hr := h.row hlt
    refine run ?_
    intro X
    refine run ?_
    refine drawAll ?_
    refine runD ?_
    refine callD (fun wc hG => enMay_e (es.getD k default) wc) ?_
    refine runDG ?_
    refine opDG (v := .slice (some ⟨b, o, none⟩) k cap) (hy := fun hg => x_sliceH tb_ok (by (simp only [hg, gv_true]; rfl)) (by (simp only [hg, gv_true]; rfl)) (by rfl) (by omega) (by omega) (m' := k) (by simp) (.inr ⟨_, _, rfl⟩)) (h := ?_)
    refine runDG ?_
    refine callDG (fun hg wc hG => containsEn_e (es.getD k default) (es.take k) _ ((h.good hG).takeN (by omega))) ?_
    refine runDG ?_
    refine run ?_
    have he : (!(es.getD k default).may || (es.take k).any fun t => decide (t = es.getD k default)) = !enOk es k := by
      unfold enOk
      rw [Bool.not_and, Bool.not_not]
    rw [he]
    refine st_cond _ rfl (fun hp => ?_) (fun hp => ?_)
    · refine run ?_
      refine fin1 ?_
      rw [tlbOk_e hlt (by simpa using hp)]; rfl
    · refine run ?_
      refine nextS (k + 1) ⟨hlt, fun j hj => ?_⟩
      rcases Nat.lt_succ_iff_lt_or_eq.1 hj with hj | rfl
      · exact hno j hj
      · simpa using hp
  · have hge : k = es.length := by simp at hc; omega
    subst hge
    refine run ?_
    refine callE (fun wc hG => containsFIv_e (us := []) (fun x => !x.may) ds _ (hd.good hG) (fun x _ w' ha => check1_e x w')) ?_
    refine run ?_
    have he : (ds.any fun x => !x.may) = !ds.all IvD.may := by rw [List.not_all_eq_any_not]
    rw [he]
    refine st_cond _ rfl (fun hp => ?_) (fun hp => ?_)
    · refine run ?_
      refine fin1 ?_
      have : tlbOk es ds = false := by
        unfold tlbOk
        rw [show ds.all IvD.may = false by simpa using hp]; simp
      rw [this]; rfl
    · refine run ?_
      refine fin1 ?_
      have : tlbOk es ds = true := by
        unfold tlbOk
        rw [all_upto hno, show ds.all IvD.may = true by simpa using hp, decide_eq_true h8.1, decide_eq_true h8.2]; rfl
      rw [this]; rfl
end Go.Proofs.YtdaenalnmdmflaaGreat
namespace Go.Proofs.YtdaenalnmdmflaaGreat
open Go.RowKit
set_option linter.unusedVariables false
set_option linter.unusedSimpArgs false
set_option maxRecDepth 20000
def EnD.stage (e : EnD) : Bool := decide (e.kind = 1) || decide (e.kind = 3)
def IvD.at_ (i : IvD) (e : EnD) : Bool := decide (e.page = bif decide (e.kind = 3) then ((cutN (e.level.toNat - 1) i.page.toNat : Nat) : Int) else i.page)
theorem en_all {xs : List EnD} : ∀ c ∈ xs.map enV, c.length = 14 ∧ c.all (·.oneCell') = true := by
  intro c hc
  obtain ⟨x, _, rfl⟩ := List.mem_map.1 hc
  exact ⟨rfl, rfl⟩
theorem iv_all {xs : List IvD} : ∀ c ∈ xs.map ivV, c.length = 4 ∧ c.all (·.oneCell') = true := by
  intro c hc
  obtain ⟨x, _, rfl⟩ := List.mem_map.1 hc
  exact ⟨rfl, rfl⟩
attribute [local irreducible] Hy St Ops DH DHF DE1 DE2 DE3 DS DCh
theorem tlbCopy_e {w : World} (es : List EnD) (ds : List IvD) (v u : Value) (h : SlAt w v 14 (es.map enV)) (hd : SlAt w u 4 (ds.map ivV)) (hl : es.length < 1000000) (hl2 : ds.length < 1000000) :
    Fn Tryz.prog 30 [.agg #[v, u]].toArray w [] (fun r hn => ∃ v1 h1 v2 h2, r = .agg #[v1, v2] ∧ Own 88 14 v1 h1 (es.map enV) ∧ Own 94 4 v2 h2 (ds.map ivV) ∧ HpLe (h1 ++ h2) hn) := by
  refine enter Tryz.func30 ?_
  refine run ?_
  intro B
  refine run ?_
  intro C
  refine run ?_
  refine drawEC 8 7 [0, 1, 3, 4] [2, 5] [6, 7] [⟨B, #[v, u], 35⟩] ?_
  refine runZ ?_
  refine eCall (fun wc hG => cloneEntries_e v (es.map enV) (h.good hG) en_all (by simpa using hl)) (cloneEntries_e v (es.map enV) h en_all (by simpa using hl)).some ?_
  refine eCall (fun wc hG => cloneInvals_e u (ds.map ivV) (hd.good hG) iv_all (by simpa using hl2)) (cloneInvals_e u (ds.map ivV) hd iv_all (by simpa using hl2)).some ?_
  refine eNil ?_
  intro v2 hn2 hO2 v1 hn1 hO1
  simp only [DN, List.cons_append, List.nil_append, List.append_nil]
  obtain ⟨p1, c1, rfl⟩ := hO1.opened
  obtain ⟨p2, c2, rfl⟩ := hO2.opened
  rw [List.length_map] at hO1 hO2 ⊢
  rw [List.length_map]
  refine cBuild ?_
  refine cPut (b := C) (cs := #[.slice none 0 0, .slice none 0 0]) (tb := 35) (hp' := hn2 ++ hn1 ++ [⟨B, #[v, u], 35⟩]) (hperm := (List.perm_middle (l₁ := hn2 ++ hn1)).symm) ?_
  refine dc_nil ?_
  refine opsC ?_
  refine run ?_
  refine finA (cs := #[.slice p1 es.length c1, .slice p2 ds.length c2]) ?_
  exact ⟨_, hn1, _, hn2, rfl, hO1, hO2, by (refine hpLe_cnt fun a => ?_; simp only [cntB_app, cntB_cons, cntB_nil]; omega)⟩
end Go.Proofs.YtdaenalnmdmflaaGreat
namespace Go.Proofs.YtdaenalnmdmflaaGreat
open Go.RowKit
set_option linter.unusedVariables false
set_option linter.unusedSimpArgs false
set_option maxRecDepth 20000
structure Sees (w : World) (mu : List Nat) (v : Value) (sz : Nat) (xs : List (List Value)) : Prop where
  at_ : SlAt w v sz xs
  off : ∀ (i : Nat) (c : List Value), xs[i]? = some c → c ≠ [] → ∀ b o n k, v = .slice (some ⟨b, o, none⟩) n k → b ∉ mu
theorem Sees.old {w : World} {v : Value} {sz : Nat} {xs : List (List Value)} (h : SlAt w v sz xs) : Sees w [] v sz xs := ⟨h, fun _ _ _ _ _ _ _ _ _ => by simp⟩
theorem Sees.good {w w' : World} {mu : List Nat} {hp : Hp} {v : Value} {sz : Nat} {xs : List (List Value)} (h : Sees w mu v sz xs) (hG : Good w mu hp w') : SlAt w' v sz xs := by
  obtain ⟨⟨⟨p, c, rfl, hp⟩, hl⟩, ho⟩ := h
  refine ⟨⟨p, c, rfl, fun hne => ?_⟩, hl⟩
  obtain ⟨b, off, rfl, hr⟩ := hp hne
  refine ⟨b, off, rfl, fun i c hc j u hj => ?_⟩
  exact hG.cell (hr i c hc j u hj) (ho i c hc (by intro e; subst e; simp at hj) _ _ _ _ rfl)
theorem Sees.next {w w' : World} {mu mu' : List Nat} {hp : Hp} {v : Value} {sz : Nat} {xs : List (List Value)} (h : Sees w mu v sz xs) (hG : Good w mu hp w') (hs : ∀ b ∈ mu', ∃ e ∈ hp, e.b = b) : Sees w' mu' v sz xs := by
  refine ⟨h.good hG, fun i c hc hcn b o n k e hm => ?_⟩
  subst e
  have hnm := h.off i c hc hcn b o n k rfl
  obtain ⟨⟨p, c', e, hp'⟩, hl⟩ := h.at_
  injection e with e1 _ e3
  subst e1
  obtain ⟨b', off', e, hr⟩ := hp' (by intro e; subst e; simp at hc)
  injection e with e
  injection e with e1 e2 _
  subst e1 e2
  obtain ⟨x, hx, rfl⟩ := hs b hm
  rcases hG.own x hx with h5 | h5
  · exact hnm h5
  · match c, hcn with
    | u :: r, _ =>
      have h3 := hr i (u :: r) hc 0 u rfl
      have h9 : x.b < w.heap.size := block_lt_of_cell h3
      omega
attribute [local irreducible] Hy St Ops DH DHF DE1 DE2 DE3 DS DCh
abbrev wkC (c : AcC) (mv ev dv rv : Value) : Array Value := #[mv, ev, dv, .bool c.one.on, .int .i64 c.one.frame, .int .i64 c.one.tag, .bool c.two.on, .int .i64 c.two.frame, .int .i64 c.two.tag, .int .i64 c.pk.cpu, .bool c.pk.fill, .bool c.pk.mids, .bool c.pk.walk, .int .i64 c.pk.drop, .bool c.pk.use, rv]
theorem finTAA {fn : Func} {R : Value → Hp → Prop} {l : Fm} {hp : Hp} {s0 a t b a2 t2 b2 : Nat} {cs cs2 : Array Value} {tb tb2 : TypeId} {v : Value} (h : R (.tuple #[v, .agg cs, .agg cs2]) hp) (hr : fn.results = #[.tmp s0, .cell a t, .cell a2 t2] := by rfl) (h0 : look l s0 = some v := by rfl) (hv : look l a = some (.pointer (some ⟨b, 0, none⟩)) := by rfl) (hw : look l a2 = some (.pointer (some ⟨b2, 0, none⟩)) := by rfl) (hag : mem Tb.ag t = true := by rfl) (hm : (⟨b, cs, tb⟩ : Blk) ∈ hp := by (first | (with_reducible apply mh) | (focus ((repeat (first | (with_reducible apply mh) | (with_reducible apply mt) | (with_reducible apply List.mem_append_right))); done)))) (hz : lk Tb.sz t = some cs.size := by rfl) (hag2 : mem Tb.ag t2 = true := by rfl) (hm2 : (⟨b2, cs2, tb2⟩ : Blk) ∈ hp := by (first | (with_reducible apply mh) | (focus ((repeat (first | (with_reducible apply mh) | (with_reducible apply mt) | (with_reducible apply List.mem_append_right))); done)))) (hz2 : lk Tb.sz t2 = some cs2.size := by rfl) : Fin Tryz.prog fn R .ret l hp :=
  ⟨.inl rfl, [v, .agg cs, .agg cs2], by rw [hr]; exact ⟨h0, ⟨⟨b, cs, tb⟩, hm, hv, .inr ⟨tb_ok.gag hag, tb_ok.gsz hz, rfl⟩⟩, ⟨⟨b2, cs2, tb2⟩, hm2, hw, .inr ⟨tb_ok.gag hag2, tb_ok.gsz hz2, rfl⟩⟩, trivial⟩, h⟩
theorem condP {α : Type} {P : α → Prop} {c : Bool} {a b : α} (ha : P a) (hb : P b) : P (bif c then a else b) := by cases c <;> assumption
theorem wlk_rd {ws : List Nat} {stage : Int} {page : Nat} : ∀ (k level : Nat) (f : Int) (rd : List Int), (wlk ws stage page k level f rd).rd.length ≤ rd.length + k := by
  intro k
  induction k with
  | zero => intro level f rd; exact Nat.le_refl _
  | succ k ih =>
    intro level f rd
    rw [wlk]
    refine condP (P := fun x : WlD => x.rd.length ≤ rd.length + (k + 1)) (condP (P := fun x : WlD => x.rd.length ≤ rd.length + (k + 1)) ?_ ?_) (by simp only; omega)
    · have := ih (level + 1) (dSt ws stage (atN f level page) level).frame (rd ++ [f])
      simp only [List.length_append, List.length_singleton] at this
      omega
    · unfold endL
      refine condP (P := fun x : WlD => x.rd.length ≤ rd.length + (k + 1)) (by simp only [List.length_append, List.length_singleton]; omega) (condP (P := fun x : WlD => x.rd.length ≤ rd.length + (k + 1)) (by simp only [List.length_append, List.length_singleton]; omega) (by simp only [List.length_append, List.length_singleton]; omega))
theorem midL_rd (ws : List Nat) (frame : Int) (mid : Nat) (acc : Int) : (midL ws true frame mid acc).rd.length ≤ 4 := by
  have h := wlk_rd (ws := ws) (stage := 2) (page := mid) 4 0 frame []
  simp only [midL, Bool.not_true, cond_false, midE]
  cases (!decide ((midG (walk5 ws 2 frame mid) mid acc).kind = 0)) <;> exact h
theorem cut_nth {l c : List Value} {o n j : Nat} {v : Value} (h : (l.drop o).take n = c) (hv : nth c j = some v) : nth l (o + j) = some v := by
  rw [nth_eq] at hv ⊢
  subst h
  simp only [List.getElem?_toArray] at hv ⊢
  rw [List.getElem?_take] at hv
  split at hv
  · rwa [List.getElem?_drop] at hv
  · cases hv
theorem cut_cut {l c : List Value} {o n j m : Nat} (h : (l.drop o).take n = c) (hm : j + m ≤ n) : (l.drop (o + j)).take m = (c.drop j).take m := by
  subst h
  rw [List.drop_take, List.take_take, List.drop_drop, Nat.min_eq_left (by omega)]
theorem idxI_lt {α : Type} [Inhabited α] (p : α → Bool) (l : List α) : -1 ≤ idxI p l ∧ idxI p l < (l.length : Int) := by
  have h := idxI_neg p l
  cases ha : l.any p with
  | false =>
    have : idxI p l = -1 := idxI_none fun j hj => by
      rw [List.any_eq_false] at ha
      have := ha _ (getD_mem hj)
      simpa using this
    rw [this]; omega
  | true =>
    obtain ⟨x, hx, hp⟩ := List.any_eq_true.1 ha
    obtain ⟨j, hj, rfl⟩ := List.getElem_of_mem hx
    have hjp : p (l.getD j default) = true := by rw [List.getD_eq_getElem?_getD, List.getElem?_eq_getElem hj]; exact hp
    obtain ⟨j0, h0, h1, h2⟩ := idx_least p l j hjp
    rw [idxI_at (k := j0) (by omega) h1 h2]
    omega
theorem may_soft0 {e : EnD} (h : e.may = true) : e.soft = 0 := by
  simp only [EnD.may, EnD.nums, Bool.and_eq_true, decide_eq_true_eq] at h
  exact h.1.2
theorem plain14_e (r w x af ng : Bool) (soft : Int) (W : World) : Fn Tryz.prog 68 [.agg #[.bool r, .bool w, .bool x, .bool af, .bool ng, .int .i64 soft]].toArray W [] (fun u _ => u = .agg #[.bool r, .bool w, .bool x, .bool af, .bool ng, .int .i64 0]) := by
  refine enter Tryz.func68 ?_
  refine run ?_
  intro B C
  exact finA (cs := #[.bool r, .bool w, .bool x, .bool af, .bool ng, .int .i64 0]) rfl
theorem rMid14_e (c : AcC) (hw : W64 c.ws) (hn : memOk c.ws.length = true) (hon : c.two.on = true) (hfr : 0 ≤ c.two.frame) {w : World} {Wb : Nat} {mv ev dv rv : Value} {he hd hr : Hp} (s : AcS) (ds : List IvD) (mid : Nat) (hmid : mid ≤ 4095) (acc : Int) (hE : EsOk c.ws.length s.es ds) (hrl : s.rd.length < 100000)
    (hm : Sees w (Wb :: (he ++ hd ++ hr).map (·.b)) mv 1 (c.ws.map uV)) (h1 : Own 88 14 ev he (s.es.map enV)) (h2 : Own 94 4 dv hd (ds.map ivV)) (h3 : Own 3 1 rv hr (s.rd.map inV)) (hN : HereN (⟨Wb, wkC c mv ev dv rv, 83⟩ :: (he ++ hd ++ hr)) w) :
    Fn Tryz.prog 37 [.pointer (some ⟨Wb, 0, none⟩), .int .i64 (mid : Int), .int .i64 acc].toArray w (Wb :: (he ++ hd ++ hr).map (·.b)) (fun u hn => ∃ ev' dv' rv' he' hd' hr', u = .tuple #[.int .i64 (midA c s mid acc).n, .agg (atV (midA c s mid acc).a).toArray, ftV (midA c s mid acc).f] ∧ Own 88 14 ev' he' ((midA c s mid acc).s.es.map enV) ∧ Own 94 4 dv' hd' (ds.map ivV) ∧ Own 3 1 rv' hr' ((midA c s mid acc).s.rd.map inV) ∧ HpLe (⟨Wb, wkC c mv ev' dv' rv', 83⟩ :: (he' ++ hd' ++ hr')) hn) := by
  have hm' := hm
  obtain ⟨qm, cm, rfl, _, _⟩ := hm.at_.opened
  obtain ⟨qe, ce, ee⟩ := h1.opened
  obtain ⟨qd, cd, ed⟩ := h2.opened
  obtain ⟨qr, cr, er⟩ := h3.opened
  rw [List.length_map] at ee ed er
  subst ee ed er
  simp only [wkC] at hN ⊢
  have hmi := memOk_iff hn
  have hem := hE.may
  refine enterM _ hN Tryz.func37 ?_
  refine run ?_
  intro R1 R2
  refine st_cutD (σ := Unit) (fun _ => []) (fun _ => ⟨R2, #[.int .i64 0, .int .i64 0, .int .i64 0, .bool false, .int .i64 0], 44⟩ :: ⟨R1, #[.bool false, .bool false, .bool false, .bool false, .bool false, .int .i64 0], 60⟩ :: ⟨Wb, #[.slice qm c.ws.length cm, .slice qe s.es.length ce, .slice qd ds.length cd, .bool c.one.on, .int .i64 c.one.frame, .int .i64 c.one.tag, .bool c.two.on, .int .i64 c.two.frame, .int .i64 c.two.tag, .int .i64 c.pk.cpu, .bool c.pk.fill, .bool c.pk.mids, .bool c.pk.walk, .int .i64 c.pk.drop, .bool c.pk.use, .slice qr s.rd.length cr], 83⟩ :: (he ++ hd ++ hr)) (fun _ => (c.pk.use && decide (0 ≤ midI c s mid acc)) = false) ?_ ?_
  · refine st_cond _ rfl (fun hc => ?_) (fun hc => ?_)
    · refine run ?_
      refine drawN 12 ?_
      refine runD ?_
      refine callD (fun wc hG => mid9_e s.es c.two.tag (mid : Int) acc _ _ (h1.lie (fun b hb => hG.here b (by simp [hb])) (by rw [List.length_map]; omega)) ⟨_, _, _, rfl⟩) ?_
      refine runD ?_
      refine run ?_
      refine st_cond _ rfl (fun hc2 => ?_) (fun hc2 => ?_)
      · have h0 : 0 ≤ midI c s mid acc := by simp only [midI]; simpa using hc2
        have hlt : (midI c s mid acc).toNat < s.es.length := by
          have := (idxI_lt (pMid c.two.tag mid acc) s.es).2
          simp only [midI] at h0 ⊢; omega
        have hso := may_soft0 (hem.1 _ (getD_mem hlt))
        obtain ⟨g, cg, cur, eg, rfl, hrow⟩ := h1.row (n := s.es.length) (by rw [List.length_map]) (by omega)
        injection eg with eq1 _ eq3
        subst eq1 eq3
        have hmA : midA c s mid acc = ⟨s, (s.es.getD (midI c s mid acc).toNat default).frame, atE (s.es.getD (midI c s mid acc).toNat default), noFt⟩ := by simp only [midA, hc, h0, decide_true, Bool.and_self, cond_true]
        have hcut : (cur.toList.drop ((midI c s mid acc).toNat * 14)).take 14 = enV (s.es.getD (midI c s mid acc).toNat default) := hrow.cut (fun c hc => (en_all c hc).1) (by rw [List.getElem?_map, List.getElem?_eq_getElem hlt, List.getD_eq_getElem?_getD, List.getElem?_eq_getElem hlt]; rfl)
        rw [show idxI (pMid c.two.tag mid acc) s.es = midI c s mid acc from rfl]
        rw [hmA]
        dsimp only
        generalize s.es.getD (midI c s mid acc).toNat default = e at hcut hso ⊢
        generalize midI c s mid acc = z at h0 hlt hcut ⊢
        have hf6 : nth cur.toList (z.toNat * 14 + 6) = some (.int .i64 e.frame) := cut_nth hcut rfl
        have hf8 : (cur.toList.drop (z.toNat * 14 + 8)).take 6 = atV (atE e) := by
          rw [cut_cut hcut (by decide)]
          show ([.bool e.r, .bool e.w, .bool e.x, .bool e.af, .bool e.ng, .int .i64 e.soft] : List Value) = _
          rw [hso]; rfl
        simp only [atV, atE] at hf8 ⊢
        simp only [List.cons_append, List.nil_append]
        refine run ?_
        refine dropS 6 ?_
        refine drawC 22 20 [0, 1, 2, 3, 4, 5, 6, 7, 8, 9, 10, 11, 12, 13, 14, 15, 16, 17, 18, 19] [20, 21] (⟨Wb, #[.slice qm c.ws.length cm, .slice (some ⟨g, 0, none⟩) s.es.length ce, .slice qd ds.length cd, .bool c.one.on, .int .i64 c.one.frame, .int .i64 c.one.tag, .bool c.two.on, .int .i64 c.two.frame, .int .i64 c.two.tag, .int .i64 c.pk.cpu, .bool c.pk.fill, .bool c.pk.mids, .bool c.pk.walk, .int .i64 c.pk.drop, .bool c.pk.use, .slice qr s.rd.length cr], 83⟩ :: (⟨g, cur, 88⟩ :: (hd ++ hr))) ?_
        refine runZ ?_
        refine cStore (b := R1) (tb := 60) (cs := #[.bool false, .bool false, .bool false, .bool false, .bool false, .int .i64 0]) (cs' := #[.bool e.r, .bool e.w, .bool e.x, .bool e.af, .bool e.ng, .int .i64 0]) (hp' := ⟨R2, #[.int .i64 0, .int .i64 0, .int .i64 0, .bool false, .int .i64 0], 44⟩ :: ⟨Wb, #[.slice qm c.ws.length cm, .slice (some ⟨g, 0, none⟩) s.es.length ce, .slice qd ds.length cd, .bool c.one.on, .int .i64 c.one.frame, .int .i64 c.one.tag, .bool c.two.on, .int .i64 c.two.frame, .int .i64 c.two.tag, .int .i64 c.pk.cpu, .bool c.pk.fill, .bool c.pk.mids, .bool c.pk.walk, .int .i64 c.pk.drop, .bool c.pk.use, .slice qr s.rd.length cr], 83⟩ :: (⟨g, cur, 88⟩ :: (hd ++ hr))) ?_ (by (refine perm_cnt fun a => ?_; simp only [cntB_app, cntB_cons, cntB_nil]; omega))
        refine cStore (b := R2) (tb := 44) (cs := #[.int .i64 0, .int .i64 0, .int .i64 0, .bool false, .int .i64 0]) (cs' := #[.int .i64 0, .int .i64 0, .int .i64 0, .bool false, .int .i64 0]) (hp' := ⟨R1, #[.bool e.r, .bool e.w, .bool e.x, .bool e.af, .bool e.ng, .int .i64 0], 60⟩ :: ⟨Wb, #[.slice qm c.ws.length cm, .slice (some ⟨g, 0, none⟩) s.es.length ce, .slice qd ds.length cd, .bool c.one.on, .int .i64 c.one.frame, .int .i64 c.one.tag, .bool c.two.on, .int .i64 c.two.frame, .int .i64 c.two.tag, .int .i64 c.pk.cpu, .bool c.pk.fill, .bool c.pk.mids, .bool c.pk.walk, .int .i64 c.pk.drop, .bool c.pk.use, .slice qr s.rd.length cr], 83⟩ :: (⟨g, cur, 88⟩ :: (hd ++ hr))) ?_ (by (refine perm_cnt fun a => ?_; simp only [cntB_app, cntB_cons, cntB_nil]; omega))
        refine dc_nil ?_
        refine opsC ?_
        refine run ?_
        exact finTAA (cs := #[.bool e.r, .bool e.w, .bool e.x, .bool e.af, .bool e.ng, .int .i64 0]) (cs2 := #[.int .i64 0, .int .i64 0, .int .i64 0, .bool false, .int .i64 0]) ⟨_, _, _, [⟨g, cur, 88⟩], hd, hr, rfl, h1, h2, h3, by (refine hpLe_cnt fun a => ?_; simp only [cntB_app, cntB_cons, cntB_nil]; omega)⟩
      · refine run ?_
        exact meetS () (by rw [show midI c s mid acc = idxI (pMid c.two.tag mid acc) s.es from rfl]; simp at hc2 ⊢; omega)
    · refine run ?_
      exact meetS () (by rw [hc]; rfl)
  rintro ⟨⟩ hcut
  have hmA : midA c s mid acc = midF c s mid (midL c.ws true c.two.frame mid acc) := by simp only [midA, hcut, cond_false]
  rw [hmA]
  refine run ?_
  have hcl := fun {wc : World} (h : SlAt wc (.slice qm c.ws.length cm) 1 (c.ws.map uV)) => rMid_e c.ws hw h (by omega) c.two.on c.two.frame c.two.tag hfr mid hmid acc
  rw [hon] at hcl
  refine drawED 17 [0, 1, 2, 3, 4, 5, 6, 7, 8, 9] [10, 15, 16] [11, 12, 13, 14] [19] [17, 18] ?_
  refine runS ?_
  rw [hon]
  refine eCall (fun wc hG => hcl (hm'.good hG)) (hcl hm'.at_).some ?_
  refine eAlloc ?_
  refine eAlloc ?_
  refine eNil ?_
  rintro _ _ ⟨F, rfl, rfl⟩ _ _ ⟨H, rfl, rfl⟩ u hn2 ⟨v2, h2', rfl, hO, hle2⟩
  have hL4 := midL_rd c.ws c.two.frame mid acc
  have hLok := midL_ok (ws := c.ws) (frame := c.two.frame) (mid := mid) (acc := acc)
  generalize midL c.ws true c.two.frame mid acc = L at hO hL4 hLok ⊢
  obtain ⟨q2, c2, e2⟩ := hO.opened
  rw [List.length_map] at e2
  subst e2
  refine dMove ?_
  refine dExtract ?_
  refine dExtract ?_
  refine dExtract ?_
  refine dNil ?_
  refine dAssign ?_
  refine dNil ?_
  simp only [DN, List.cons_append, List.nil_append, List.append_nil]
  refine cStore (b := H) (tb := 62) (cs := #[.int .i64 0, .int .i64 0, .bool false, .bool false, .bool false, .bool false, .bool false, .int .i64 0, .int .i64 0]) (cs' := #[.int .i64 L.h.frame, .int .i64 L.h.mid, .bool L.h.r, .bool L.h.w, .bool L.h.x, .bool L.h.af, .bool L.h.ng, .int .i64 L.h.soft, .int .i64 L.h.level]) (hp' := ⟨F, #[.int .i64 0, .int .i64 0, .int .i64 0, .bool false, .int .i64 0], 44⟩ :: (hn2 ++ (⟨R2, #[.int .i64 0, .int .i64 0, .int .i64 0, .bool false, .int .i64 0], 44⟩ :: ⟨R1, #[.bool false, .bool false, .bool false, .bool false, .bool false, .int .i64 0], 60⟩ :: ⟨Wb, #[.slice qm c.ws.length cm, .slice qe s.es.length ce, .slice qd ds.length cd, .bool c.one.on, .int .i64 c.one.frame, .int .i64 c.one.tag, .bool true, .int .i64 c.two.frame, .int .i64 c.two.tag, .int .i64 c.pk.cpu, .bool c.pk.fill, .bool c.pk.mids, .bool c.pk.walk, .int .i64 c.pk.drop, .bool c.pk.use, .slice qr s.rd.length cr], 83⟩ :: (he ++ hd ++ hr)))) ?_ (by (refine perm_cnt fun a => ?_; simp only [cntB_app, cntB_cons, cntB_nil]; omega))
  refine cStore (b := F) (tb := 44) (cs := #[.int .i64 0, .int .i64 0, .int .i64 0, .bool false, .int .i64 0]) (cs' := #[.int .i64 L.f.kind, .int .i64 L.f.stage, .int .i64 L.f.level, .bool L.f.walk, .int .i64 L.f.page]) (hp' := ⟨H, #[.int .i64 L.h.frame, .int .i64 L.h.mid, .bool L.h.r, .bool L.h.w, .bool L.h.x, .bool L.h.af, .bool L.h.ng, .int .i64 L.h.soft, .int .i64 L.h.level], 62⟩ :: (hn2 ++ (⟨R2, #[.int .i64 0, .int .i64 0, .int .i64 0, .bool false, .int .i64 0], 44⟩ :: ⟨R1, #[.bool false, .bool false, .bool false, .bool false, .bool false, .int .i64 0], 60⟩ :: ⟨Wb, #[.slice qm c.ws.length cm, .slice qe s.es.length ce, .slice qd ds.length cd, .bool c.one.on, .int .i64 c.one.frame, .int .i64 c.one.tag, .bool true, .int .i64 c.two.frame, .int .i64 c.two.tag, .int .i64 c.pk.cpu, .bool c.pk.fill, .bool c.pk.mids, .bool c.pk.walk, .int .i64 c.pk.drop, .bool c.pk.use, .slice qr s.rd.length cr], 83⟩ :: (he ++ hd ++ hr)))) ?_ (by (refine perm_cnt fun a => ?_; simp only [cntB_app, cntB_cons, cntB_nil]; omega))
  refine dc_nil ?_
  refine opsC ?_
  refine ops_le (⟨F, #[.int .i64 L.f.kind, .int .i64 L.f.stage, .int .i64 L.f.level, .bool L.f.walk, .int .i64 L.f.page], 44⟩ :: ⟨H, #[.int .i64 L.h.frame, .int .i64 L.h.mid, .bool L.h.r, .bool L.h.w, .bool L.h.x, .bool L.h.af, .bool L.h.ng, .int .i64 L.h.soft, .int .i64 L.h.level], 62⟩ :: ⟨R2, #[.int .i64 0, .int .i64 0, .int .i64 0, .bool false, .int .i64 0], 44⟩ :: ⟨R1, #[.bool false, .bool false, .bool false, .bool false, .bool false, .int .i64 0], 60⟩ :: ⟨Wb, #[.slice qm c.ws.length cm, .slice qe s.es.length ce, .slice qd ds.length cd, .bool c.one.on, .int .i64 c.one.frame, .int .i64 c.one.tag, .bool true, .int .i64 c.two.frame, .int .i64 c.two.tag, .int .i64 c.pk.cpu, .bool c.pk.fill, .bool c.pk.mids, .bool c.pk.walk, .int .i64 c.pk.drop, .bool c.pk.use, .slice qr s.rd.length cr], 83⟩ :: (he ++ hd ++ hr ++ h2')) (by (refine hpLe_cnt fun a => ?_; have := HpLe.cnt hle2 a; simp only [cntB_app, cntB_cons, cntB_nil] at *; omega)) ?_
  refine run ?_
  refine appendG (L.rd.map inV) (⟨F, #[.int .i64 L.f.kind, .int .i64 L.f.stage, .int .i64 L.f.level, .bool L.f.walk, .int .i64 L.f.page], 44⟩ :: ⟨H, #[.int .i64 L.h.frame, .int .i64 L.h.mid, .bool L.h.r, .bool L.h.w, .bool L.h.x, .bool L.h.af, .bool L.h.ng, .int .i64 L.h.soft, .int .i64 L.h.level], 62⟩ :: ⟨R2, #[.int .i64 0, .int .i64 0, .int .i64 0, .bool false, .int .i64 0], 44⟩ :: ⟨R1, #[.bool false, .bool false, .bool false, .bool false, .bool false, .int .i64 0], 60⟩ :: ⟨Wb, #[.slice qm c.ws.length cm, .slice qe s.es.length ce, .slice qd ds.length cd, .bool c.one.on, .int .i64 c.one.frame, .int .i64 c.one.tag, .bool true, .int .i64 c.two.frame, .int .i64 c.two.tag, .int .i64 c.pk.cpu, .bool c.pk.fill, .bool c.pk.mids, .bool c.pk.walk, .int .i64 c.pk.drop, .bool c.pk.use, .slice qr s.rd.length cr], 83⟩ :: (he ++ hd ++ h2')) h3 (SrcAt.own hO (by (refine hpLe_cnt fun a => ?_; simp only [cntB_app, cntB_cons, cntB_nil]; omega))) (fun v4 h4 hO4 => ?_) (by simp only [List.length_map]; omega) (fun c hc => by obtain ⟨x, _, rfl⟩ := List.mem_map.1 hc; exact ⟨rfl, rfl⟩) (hperm := by (refine perm_cnt fun a => ?_; simp only [cntB_app, cntB_cons, cntB_nil]; omega))
  rw [← List.map_append] at hO4
  obtain ⟨q4, c4, e4⟩ := hO4.opened
  rw [List.length_map] at e4
  subst e4
  refine ops_le (⟨Wb, #[.slice qm c.ws.length cm, .slice qe s.es.length ce, .slice qd ds.length cd, .bool c.one.on, .int .i64 c.one.frame, .int .i64 c.one.tag, .bool true, .int .i64 c.two.frame, .int .i64 c.two.tag, .int .i64 c.pk.cpu, .bool c.pk.fill, .bool c.pk.mids, .bool c.pk.walk, .int .i64 c.pk.drop, .bool c.pk.use, .slice qr s.rd.length cr], 83⟩ :: ⟨F, #[.int .i64 L.f.kind, .int .i64 L.f.stage, .int .i64 L.f.level, .bool L.f.walk, .int .i64 L.f.page], 44⟩ :: ⟨H, #[.int .i64 L.h.frame, .int .i64 L.h.mid, .bool L.h.r, .bool L.h.w, .bool L.h.x, .bool L.h.af, .bool L.h.ng, .int .i64 L.h.soft, .int .i64 L.h.level], 62⟩ :: ⟨R2, #[.int .i64 0, .int .i64 0, .int .i64 0, .bool false, .int .i64 0], 44⟩ :: ⟨R1, #[.bool false, .bool false, .bool false, .bool false, .bool false, .int .i64 0], 60⟩ :: (he ++ hd ++ h4)) (by (refine hpLe_cnt fun a => ?_; simp only [cntB_app, cntB_cons, cntB_nil]; omega)) ?_
  refine run ?_
  refine st_cond _ rfl (fun hc => ?_) (fun hc => ?_)
  · have hm2 : midF c s mid L = ⟨⟨s.es, s.rd ++ L.rd⟩, 0, noAt, L.f⟩ := by simp only [midF, hc, cond_true]
    rw [hm2]
    refine run ?_
    refine dropS 6 ?_
    refine drawC 5 3 [0, 1, 2] [3, 4] (⟨Wb, #[.slice qm c.ws.length cm, .slice qe s.es.length ce, .slice qd ds.length cd, .bool c.one.on, .int .i64 c.one.frame, .int .i64 c.one.tag, .bool true, .int .i64 c.two.frame, .int .i64 c.two.tag, .int .i64 c.pk.cpu, .bool c.pk.fill, .bool c.pk.mids, .bool c.pk.walk, .int .i64 c.pk.drop, .bool c.pk.use, .slice q4 (s.rd ++ L.rd).length c4], 83⟩ :: ⟨F, #[.int .i64 L.f.kind, .int .i64 L.f.stage, .int .i64 L.f.level, .bool L.f.walk, .int .i64 L.f.page], 44⟩ :: ⟨H, #[.int .i64 L.h.frame, .int .i64 L.h.mid, .bool L.h.r, .bool L.h.w, .bool L.h.x, .bool L.h.af, .bool L.h.ng, .int .i64 L.h.soft, .int .i64 L.h.level], 62⟩ :: (he ++ hd ++ h4)) ?_
    refine runZ ?_
    refine cStore (b := R1) (tb := 60) (cs := #[.bool false, .bool false, .bool false, .bool false, .bool false, .int .i64 0]) (cs' := #[.bool false, .bool false, .bool false, .bool false, .bool false, .int .i64 0]) (hp' := ⟨R2, #[.int .i64 0, .int .i64 0, .int .i64 0, .bool false, .int .i64 0], 44⟩ :: ⟨Wb, #[.slice qm c.ws.length cm, .slice qe s.es.length ce, .slice qd ds.length cd, .bool c.one.on, .int .i64 c.one.frame, .int .i64 c.one.tag, .bool true, .int .i64 c.two.frame, .int .i64 c.two.tag, .int .i64 c.pk.cpu, .bool c.pk.fill, .bool c.pk.mids, .bool c.pk.walk, .int .i64 c.pk.drop, .bool c.pk.use, .slice q4 (s.rd ++ L.rd).length c4], 83⟩ :: ⟨F, #[.int .i64 L.f.kind, .int .i64 L.f.stage, .int .i64 L.f.level, .bool L.f.walk, .int .i64 L.f.page], 44⟩ :: ⟨H, #[.int .i64 L.h.frame, .int .i64 L.h.mid, .bool L.h.r, .bool L.h.w, .bool L.h.x, .bool L.h.af, .bool L.h.ng, .int .i64 L.h.soft, .int .i64 L.h.level], 62⟩ :: (he ++ hd ++ h4)) ?_ (by (refine perm_cnt fun a => ?_; simp only [cntB_app, cntB_cons, cntB_nil]; omega))
    refine cStore (b := R2) (tb := 44) (cs := #[.int .i64 0, .int .i64 0, .int .i64 0, .bool false, .int .i64 0]) (cs' := #[.int .i64 L.f.kind, .int .i64 L.f.stage, .int .i64 L.f.level, .bool L.f.walk, .int .i64 L.f.page]) (hp' := ⟨R1, #[.bool false, .bool false, .bool false, .bool false, .bool false, .int .i64 0], 60⟩ :: ⟨Wb, #[.slice qm c.ws.length cm, .slice qe s.es.length ce, .slice qd ds.length cd, .bool c.one.on, .int .i64 c.one.frame, .int .i64 c.one.tag, .bool true, .int .i64 c.two.frame, .int .i64 c.two.tag, .int .i64 c.pk.cpu, .bool c.pk.fill, .bool c.pk.mids, .bool c.pk.walk, .int .i64 c.pk.drop, .bool c.pk.use, .slice q4 (s.rd ++ L.rd).length c4], 83⟩ :: ⟨F, #[.int .i64 L.f.kind, .int .i64 L.f.stage, .int .i64 L.f.level, .bool L.f.walk, .int .i64 L.f.page], 44⟩ :: ⟨H, #[.int .i64 L.h.frame, .int .i64 L.h.mid, .bool L.h.r, .bool L.h.w, .bool L.h.x, .bool L.h.af, .bool L.h.ng, .int .i64 L.h.soft, .int .i64 L.h.level], 62⟩ :: (he ++ hd ++ h4)) ?_ (by (refine perm_cnt fun a => ?_; simp only [cntB_app, cntB_cons, cntB_nil]; omega))
    refine dc_nil ?_
    refine opsC ?_
    refine run ?_
    exact finTAA (cs := #[.bool false, .bool false, .bool false, .bool false, .bool false, .int .i64 0]) (cs2 := #[.int .i64 L.f.kind, .int .i64 L.f.stage, .int .i64 L.f.level, .bool L.f.walk, .int .i64 L.f.page]) ⟨_, _, _, he, hd, h4, rfl, h1, h2, hO4, by (refine hpLe_cnt fun a => ?_; simp only [cntB_app, cntB_cons, cntB_nil]; omega)⟩
  have hm2 : midF c s mid L = ⟨⟨bif c.pk.mids then fillL s.es (entM c.two.tag mid L.h) else s.es, s.rd ++ L.rd⟩, L.h.frame, ⟨L.h.r, L.h.w, L.h.x, L.h.af, L.h.ng⟩, L.f⟩ := by simp only [midF, hc, cond_false]
  rw [hm2]
  obtain ⟨hLf, hLn, hLg⟩ := hLok (by simpa using hc)
  refine run ?_
  refine st_cutD (σ := Option Addr × Nat × Hp × Option Addr × Nat × Hp) (fun _ => []) (fun z => ⟨Wb, #[.slice qm c.ws.length cm, .slice z.1 (bif c.pk.mids then fillL s.es (entM c.two.tag mid L.h) else s.es).length z.2.1, .slice z.2.2.2.1 ds.length z.2.2.2.2.1, .bool c.one.on, .int .i64 c.one.frame, .int .i64 c.one.tag, .bool true, .int .i64 c.two.frame, .int .i64 c.two.tag, .int .i64 c.pk.cpu, .bool c.pk.fill, .bool c.pk.mids, .bool c.pk.walk, .int .i64 c.pk.drop, .bool c.pk.use, .slice q4 (s.rd ++ L.rd).length c4], 83⟩ :: ⟨F, #[.int .i64 L.f.kind, .int .i64 L.f.stage, .int .i64 L.f.level, .bool L.f.walk, .int .i64 L.f.page], 44⟩ :: ⟨H, #[.int .i64 L.h.frame, .int .i64 L.h.mid, .bool L.h.r, .bool L.h.w, .bool L.h.x, .bool L.h.af, .bool L.h.ng, .int .i64 L.h.soft, .int .i64 L.h.level], 62⟩ :: ⟨R2, #[.int .i64 0, .int .i64 0, .int .i64 0, .bool false, .int .i64 0], 44⟩ :: ⟨R1, #[.bool false, .bool false, .bool false, .bool false, .bool false, .int .i64 0], 60⟩ :: (z.2.2.1 ++ z.2.2.2.2.2 ++ h4)) (fun z => Own 88 14 (.slice z.1 (bif c.pk.mids then fillL s.es (entM c.two.tag mid L.h) else s.es).length z.2.1) z.2.2.1 ((bif c.pk.mids then fillL s.es (entM c.two.tag mid L.h) else s.es).map enV) ∧ Own 94 4 (.slice z.2.2.2.1 ds.length z.2.2.2.2.1) z.2.2.2.2.2 (ds.map ivV)) ?_ ?_
  · refine st_cond _ rfl (fun hc2 => ?_) (fun hc2 => ?_)
    · rw [hc2, cond_true]
      refine run ?_
      have hfl := fun {wc : World} (ha : SlAt wc (.slice qe s.es.length ce) 14 (s.es.map enV)) (hb : SlAt wc (.slice qd ds.length cd) 4 (ds.map ivV)) => fill9_e s.es ds (entM c.two.tag mid L.h) _ _ ha hb (by omega) (by omega)
      refine drawED 18 [0, 1, 2, 3, 4, 5, 6, 7, 8, 9, 10, 11, 12, 13, 14, 15, 16] [17] [] [18, 19] [20] ?_
      refine runS ?_
      refine sCallE (fun wc hx hG => plain14_e L.h.r L.h.w L.h.x L.h.af L.h.ng L.h.soft wc) ?_
      refine runS ?_
      refine eCall (fun wc hG => hfl (h1.lie (fun b hb => hG.here b (by simp [hb])) (by rw [List.length_map]; omega)) (h2.lie (fun b hb => hG.here b (by simp [hb])) (by rw [List.length_map]; omega))) (hfl (h1.lie (fun b hb => hN.here b (by simp [hb])) (by rw [List.length_map]; omega)) (h2.lie (fun b hb => hN.here b (by simp [hb])) (by rw [List.length_map]; omega))).some ?_
      refine eNil ?_
      rintro u5 hn5 ⟨v5, h5, v6, h6, rfl, hA5, hA6, hle5⟩
      obtain ⟨q5, c5, e5⟩ := hA5.own.opened
      rw [List.length_map] at e5
      subst e5
      obtain ⟨q6, c6, e6⟩ := hA6.own.opened
      rw [List.length_map] at e6
      subst e6
      refine dNil ?_
      refine dNilCheck ?_
      refine dField ?_
      refine dNil ?_
      simp only [DN, List.cons_append, List.nil_append, List.append_nil]
      refine cStore (b := Wb) (tb := 83) (cs := #[.slice qm c.ws.length cm, .slice qe s.es.length ce, .slice qd ds.length cd, .bool c.one.on, .int .i64 c.one.frame, .int .i64 c.one.tag, .bool true, .int .i64 c.two.frame, .int .i64 c.two.tag, .int .i64 c.pk.cpu, .bool c.pk.fill, .bool true, .bool c.pk.walk, .int .i64 c.pk.drop, .bool c.pk.use, .slice q4 (s.rd ++ L.rd).length c4]) (cs' := #[.slice qm c.ws.length cm, .slice q5 (fillL s.es (entM c.two.tag mid L.h)).length c5, .slice q6 ds.length c6, .bool c.one.on, .int .i64 c.one.frame, .int .i64 c.one.tag, .bool true, .int .i64 c.two.frame, .int .i64 c.two.tag, .int .i64 c.pk.cpu, .bool c.pk.fill, .bool true, .bool c.pk.walk, .int .i64 c.pk.drop, .bool c.pk.use, .slice q4 (s.rd ++ L.rd).length c4]) (hp' := hn5 ++ (⟨F, #[.int .i64 L.f.kind, .int .i64 L.f.stage, .int .i64 L.f.level, .bool L.f.walk, .int .i64 L.f.page], 44⟩ :: ⟨H, #[.int .i64 L.h.frame, .int .i64 L.h.mid, .bool L.h.r, .bool L.h.w, .bool L.h.x, .bool L.h.af, .bool L.h.ng, .int .i64 L.h.soft, .int .i64 L.h.level], 62⟩ :: ⟨R2, #[.int .i64 0, .int .i64 0, .int .i64 0, .bool false, .int .i64 0], 44⟩ :: ⟨R1, #[.bool false, .bool false, .bool false, .bool false, .bool false, .int .i64 0], 60⟩ :: (he ++ hd ++ h4))) ?_ (by (refine perm_cnt fun a => ?_; simp only [cntB_app, cntB_cons, cntB_nil]; omega))
      refine dc_nil ?_
      refine opsC ?_
      refine run ?_
      exact meetS (q5, c5, h5, q6, c6, h6) ⟨hA5.own, hA6.own⟩ (h2 := by (refine hpLe_cnt fun a => ?_; have := HpLe.cnt hle5 a; simp only [cntB_app, cntB_cons, cntB_nil] at *; omega))
    · rw [hc2, cond_false]
      refine run ?_
      exact meetS (qe, ce, he, qd, cd, hd) ⟨h1, h2⟩ (h2 := by (refine hpLe_cnt fun a => ?_; simp only [cntB_app, cntB_cons, cntB_nil]; omega))
  rintro ⟨qe2, ce2, he2, qd2, cd2, hd2⟩ ⟨h1', h2''⟩
  dsimp only at h1' h2'' ⊢
  refine run ?_
  refine dropS 6 ?_
  refine drawC 9 7 [0, 1, 2, 3, 4, 5, 6] [7, 8] (⟨Wb, #[.slice qm c.ws.length cm, .slice qe2 (bif c.pk.mids then fillL s.es (entM c.two.tag mid L.h) else s.es).length ce2, .slice qd2 ds.length cd2, .bool c.one.on, .int .i64 c.one.frame, .int .i64 c.one.tag, .bool true, .int .i64 c.two.frame, .int .i64 c.two.tag, .int .i64 c.pk.cpu, .bool c.pk.fill, .bool c.pk.mids, .bool c.pk.walk, .int .i64 c.pk.drop, .bool c.pk.use, .slice q4 (s.rd ++ L.rd).length c4], 83⟩ :: ⟨F, #[.int .i64 L.f.kind, .int .i64 L.f.stage, .int .i64 L.f.level, .bool L.f.walk, .int .i64 L.f.page], 44⟩ :: ⟨H, #[.int .i64 L.h.frame, .int .i64 L.h.mid, .bool L.h.r, .bool L.h.w, .bool L.h.x, .bool L.h.af, .bool L.h.ng, .int .i64 L.h.soft, .int .i64 L.h.level], 62⟩ :: (he2 ++ hd2 ++ h4)) ?_
  refine runZ ?_
  refine sCallA (fun wc hx hG => plain14_e L.h.r L.h.w L.h.x L.h.af L.h.ng L.h.soft wc) ?_
  refine runZ ?_
  refine cStore (b := R1) (tb := 60) (cs := #[.bool false, .bool false, .bool false, .bool false, .bool false, .int .i64 0]) (cs' := #[.bool L.h.r, .bool L.h.w, .bool L.h.x, .bool L.h.af, .bool L.h.ng, .int .i64 0]) (hp' := ⟨R2, #[.int .i64 0, .int .i64 0, .int .i64 0, .bool false, .int .i64 0], 44⟩ :: ⟨Wb, #[.slice qm c.ws.length cm, .slice qe2 (bif c.pk.mids then fillL s.es (entM c.two.tag mid L.h) else s.es).length ce2, .slice qd2 ds.length cd2, .bool c.one.on, .int .i64 c.one.frame, .int .i64 c.one.tag, .bool true, .int .i64 c.two.frame, .int .i64 c.two.tag, .int .i64 c.pk.cpu, .bool c.pk.fill, .bool c.pk.mids, .bool c.pk.walk, .int .i64 c.pk.drop, .bool c.pk.use, .slice q4 (s.rd ++ L.rd).length c4], 83⟩ :: ⟨F, #[.int .i64 L.f.kind, .int .i64 L.f.stage, .int .i64 L.f.level, .bool L.f.walk, .int .i64 L.f.page], 44⟩ :: ⟨H, #[.int .i64 L.h.frame, .int .i64 L.h.mid, .bool L.h.r, .bool L.h.w, .bool L.h.x, .bool L.h.af, .bool L.h.ng, .int .i64 L.h.soft, .int .i64 L.h.level], 62⟩ :: (he2 ++ hd2 ++ h4)) ?_ (by (refine perm_cnt fun a => ?_; simp only [cntB_app, cntB_cons, cntB_nil]; omega))
  refine cStore (b := R2) (tb := 44) (cs := #[.int .i64 0, .int .i64 0, .int .i64 0, .bool false, .int .i64 0]) (cs' := #[.int .i64 L.f.kind, .int .i64 L.f.stage, .int .i64 L.f.level, .bool L.f.walk, .int .i64 L.f.page]) (hp' := ⟨R1, #[.bool L.h.r, .bool L.h.w, .bool L.h.x, .bool L.h.af, .bool L.h.ng, .int .i64 0], 60⟩ :: ⟨Wb, #[.slice qm c.ws.length cm, .slice qe2 (bif c.pk.mids then fillL s.es (entM c.two.tag mid L.h) else s.es).length ce2, .slice qd2 ds.length cd2, .bool c.one.on, .int .i64 c.one.frame, .int .i64 c.one.tag, .bool true, .int .i64 c.two.frame, .int .i64 c.two.tag, .int .i64 c.pk.cpu, .bool c.pk.fill, .bool c.pk.mids, .bool c.pk.walk, .int .i64 c.pk.drop, .bool c.pk.use, .slice q4 (s.rd ++ L.rd).length c4], 83⟩ :: ⟨F, #[.int .i64 L.f.kind, .int .i64 L.f.stage, .int .i64 L.f.level, .bool L.f.walk, .int .i64 L.f.page], 44⟩ :: ⟨H, #[.int .i64 L.h.frame, .int .i64 L.h.mid, .bool L.h.r, .bool L.h.w, .bool L.h.x, .bool L.h.af, .bool L.h.ng, .int .i64 L.h.soft, .int .i64 L.h.level], 62⟩ :: (he2 ++ hd2 ++ h4)) ?_ (by (refine perm_cnt fun a => ?_; simp only [cntB_app, cntB_cons, cntB_nil]; omega))
  refine dc_nil ?_
  refine opsC ?_
  refine run ?_
  exact finTAA (cs := #[.bool L.h.r, .bool L.h.w, .bool L.h.x, .bool L.h.af, .bool L.h.ng, .int .i64 0]) (cs2 := #[.int .i64 L.f.kind, .int .i64 L.f.stage, .int .i64 L.f.level, .bool L.f.walk, .int .i64 L.f.page]) ⟨_, _, _, he2, hd2, h4, rfl, h1', h2'', hO4, by (refine hpLe_cnt fun a => ?_; simp only [cntB_app, cntB_cons, cntB_nil]; omega)⟩
end Go.Proofs.YtdaenalnmdmflaaGreat
namespace Go.Proofs.YtdaenalnmdmflaaGreat
open Go.RowKit
set_option linter.unusedVariables false
set_option linter.unusedSimpArgs false
set_option maxRecDepth 20000
structure AcOk (c : AcC) : Prop where
  w64 : W64 c.ws
  mem : memOk c.ws.length = true
  one : c.one.may = true
  two : c.two.may = true
  on : c.two.on = true
  page : c.page ≤ 4095
theorem RtD.may_iff {r : RtD} (h : r.may = true) : (0 ≤ r.frame ∧ r.frame ≤ 4095) ∧ 0 ≤ r.tag ∧ r.tag ≤ 15 := by
  simpa only [RtD.may, PtD.btw, Bool.and_eq_true, decide_eq_true_eq] using h
theorem hasF_hi {n : Nat} {f : Int} (hn : memOk n = true) (h : hasF n f = true) : 0 ≤ f ∧ f ≤ 63 := by
  have h1 := memOk_iff hn
  have h2 := hasF_iff h
  omega
theorem cut_twice {l p : Nat} : cutN l (cutN l p) = cutN l p := by
  unfold cutN
  have : (p - p % coversN l) % coversN l = 0 := by
    have h := Nat.div_add_mod p (coversN l)
    rw [show p - p % coversN l = coversN l * (p / coversN l) by omega]
    exact Nat.mul_mod_right ..
  omega
theorem cut_le (l p : Nat) : cutN l p ≤ p := by unfold cutN; omega
theorem btwT {z : Int} {a b : Int} (h : a ≤ z) (h2 : z ≤ b) : PtD.btw z a b = true := by simp [PtD.btw, h, h2]
theorem entM_may {c : AcC} (hk : AcOk c) {mid : Nat} (hm : mid ≤ 4095) {h : HtD} (hf : hasF c.ws.length h.frame = true) (hg : h.ng = false) : (entM c.two.tag mid h).may = true := by
  have h1 := RtD.may_iff hk.two
  have h2 := hasF_hi hk.mem hf
  have e1 : (entM c.two.tag mid h).nums = true := by
    simp only [EnD.nums, entM, decide_true, Bool.and_true, Bool.and_eq_true]
    exact ⟨⟨⟨⟨btwT (by omega) (by omega), btwT (by omega) (by omega)⟩, btwT (by omega) (by omega)⟩, btwT (by omega) (by omega)⟩, btwT (by omega) (by omega)⟩
  rw [EnD.may, e1]
  simp [entM, hg]
theorem entW_may {c : AcC} (hk : AcOk c) {level : Nat} (h0 : 0 < level) (h3 : level ≤ 3) {n : Int} (hf : hasF c.ws.length n = true) : (entW c level n).may = true := by
  have h1 := RtD.may_iff hk.two
  have h4 := RtD.may_iff hk.one
  have h2 := hasF_hi hk.mem hf
  have h5 := hk.page
  have h6 := cut_le (level - 1) c.page
  have e1 : (entW c level n).nums = true := by
    simp only [EnD.nums, entW, decide_true, Bool.and_true, Bool.and_eq_true]
    exact ⟨⟨⟨⟨btwT (by omega) (by omega), btwT (by omega) (by omega)⟩, btwT (by omega) (by omega)⟩, btwT (by omega) (by omega)⟩, btwT (by omega) (by omega)⟩
  have e2 : PtD.btw (entW c level n).level 1 3 = true := btwT (by simp only [entW]; omega) (by simp only [entW]; omega)
  rw [EnD.may, e1, e2]
  simp [entW, EnD.bare, cut_twice]
theorem entH_may {c : AcC} (hk : AcOk c) {n : Int} {mid : Nat} (hm : mid ≤ 4095) {d : DsD} {a : AtD} (hf : hasF c.ws.length n = true) : (entH c n mid d a).may = true := by
  have h1 := RtD.may_iff hk.two
  have h4 := RtD.may_iff hk.one
  have h2 := hasF_hi hk.mem hf
  have h5 := hk.page
  have e1 : (entH c n mid d a).nums = true := by
    simp only [EnD.nums, entH, decide_true, Bool.and_true, Bool.and_eq_true]
    exact ⟨⟨⟨⟨btwT (by omega) (by omega), btwT (by omega) (by omega)⟩, btwT (by omega) (by omega)⟩, btwT (by omega) (by omega)⟩, btwT (by omega) (by omega)⟩
  rw [EnD.may, e1]
  simp [entH]
structure StOk (n : Nat) (ds : List IvD) (k : Nat) (s : AcS) (x : AcS) : Prop where
  es : EsOk n x.es ds
  rd : x.rd.length ≤ s.rd.length + k
theorem EsOk.may_of {n : Nat} {es : List EnD} {ds : List IvD} (h : EsOk n es ds) {i : Nat} (hi : i < es.length) : (es.getD i default).may = true ∧ hasF n (es.getD i default).frame = true := ⟨h.may.1 _ (getD_mem hi), h.held _ (getD_mem hi)⟩
theorem may_mid {e : EnD} (h : e.may = true) (hk : e.kind = 2) : e.ng = false := by
  simp only [EnD.may, hk, decide_true, show decide ((2 : Int) = 1) = false from rfl, cond_true, cond_false, Bool.and_eq_true, Bool.not_eq_true'] at h
  exact h.2.2
theorem idxI_at2 {α : Type} [Inhabited α] {p : α → Bool} {l : List α} (h : 0 ≤ idxI p l) : (idxI p l).toNat < l.length ∧ p (l.getD (idxI p l).toNat default) = true := by
  have h1 := (idxI_lt p l).2
  refine ⟨by omega, ?_⟩
  cases ha : l.any p with
  | false =>
    have : idxI p l = -1 := idxI_none fun j hj => by
      rw [List.any_eq_false] at ha
      have := ha _ (getD_mem hj)
      simpa using this
    omega
  | true =>
    obtain ⟨x, hx, hp⟩ := List.any_eq_true.1 ha
    obtain ⟨j, hj, rfl⟩ := List.getElem_of_mem hx
    have hjp : p (l.getD j default) = true := by rw [List.getD_eq_getElem?_getD, List.getElem?_eq_getElem hj]; exact hp
    obtain ⟨j0, h0, h2, h3⟩ := idx_least p l j hjp
    rw [idxI_at (k := j0) (by omega) h2 h3]
    simpa using h2
theorem midF_ok {c : AcC} (hk : AcOk c) {ds : List IvD} {s : AcS} (hE : EsOk c.ws.length s.es ds) {mid : Nat} (hm : mid ≤ 4095) (acc : Int) : StOk c.ws.length ds 4 s (midF c s mid (midL c.ws true c.two.frame mid acc)).s ∧ ((midF c s mid (midL c.ws true c.two.frame mid acc)).f.kind = 0 → hasF c.ws.length (midF c s mid (midL c.ws true c.two.frame mid acc)).n = true ∧ (midF c s mid (midL c.ws true c.two.frame mid acc)).f = noFt ∧ (midF c s mid (midL c.ws true c.two.frame mid acc)).a.ng = false) := by
  have h4 := midL_rd c.ws c.two.frame mid acc
  have h5 := midL_ok (ws := c.ws) (frame := c.two.frame) (mid := mid) (acc := acc)
  generalize midL c.ws true c.two.frame mid acc = L at h4 h5 ⊢
  unfold midF
  cases hc : decide (L.f.kind = 0) with
  | false =>
    simp only [Bool.not_false, cond_true]
    refine ⟨⟨hE, by simp only [List.length_append]; omega⟩, fun h => ?_⟩
    simp [h] at hc
  | true =>
    obtain ⟨h6, h7, h8⟩ := h5 (of_decide_eq_true hc)
    simp only [Bool.not_true, cond_false]
    refine ⟨⟨?_, by simp only [List.length_append]; omega⟩, fun h => ⟨h6, h7, h8⟩⟩
    cases c.pk.mids with
    | false => exact hE
    | true => exact fill_ok hE (entM_may hk hm h6 h8) h6
theorem midA_ok {c : AcC} (hk : AcOk c) {ds : List IvD} {s : AcS} (hE : EsOk c.ws.length s.es ds) {mid : Nat} (hm : mid ≤ 4095) (acc : Int) : StOk c.ws.length ds 4 s (midA c s mid acc).s ∧ ((midA c s mid acc).f.kind = 0 → hasF c.ws.length (midA c s mid acc).n = true ∧ (midA c s mid acc).f = noFt ∧ (midA c s mid acc).a.ng = false) := by
  unfold midA
  cases hc : (c.pk.use && decide (0 ≤ midI c s mid acc)) with
  | false => exact midF_ok hk hE hm acc
  | true =>
    rw [Bool.and_eq_true, decide_eq_true_eq] at hc
    simp only [cond_true]
    obtain ⟨h1, h2⟩ := idxI_at2 (p := pMid c.two.tag mid acc) (l := s.es) hc.2
    have h3 := hE.may_of h1
    refine ⟨⟨hE, by omega⟩, fun _ => ⟨h3.2, by first | rfl | trivial, ?_⟩⟩
    simp only [pMid, Bool.and_eq_true, decide_eq_true_eq] at h2
    exact may_mid h3.1 h2.1.1.1
theorem tblA_ok {c : AcC} (hk : AcOk c) {ds : List IvD} {s : AcS} (hE : EsOk c.ws.length s.es ds) {mid level : Nat} (hm : mid ≤ 4095) (hl : level ≤ 3) : StOk c.ws.length ds 4 s (tblA c s mid level).s ∧ ((tblA c s mid level).f.kind = 0 → hasF c.ws.length (tblA c s mid level).n = true) := by
  obtain ⟨h1, h2⟩ := midA_ok hk hE hm 0
  unfold tblA
  generalize midA c s mid 0 = M at h1 h2 ⊢
  cases hc : decide (M.f.kind = 0) with
  | false =>
    simp only [Bool.not_false, cond_true]
    refine ⟨h1, fun h => ?_⟩
    simp [h] at hc
  | true =>
    obtain ⟨h3, h4, _⟩ := h2 (of_decide_eq_true hc)
    simp only [Bool.not_true, cond_false]
    refine ⟨⟨?_, h1.rd⟩, fun _ => h3⟩
    cases hw : (decide (0 < level) && c.pk.walk) with
    | false => exact h1.es
    | true =>
      rw [Bool.and_eq_true, decide_eq_true_eq] at hw
      exact fill_ok h1.es (entW_may hk hw.1 hl h3) h3
theorem leaf_mid {stage : Int} {level : Nat} {d : DsD} (hd : d.may stage level = true) (hk : d.kind = 2) (hl : level < 4) (page : Nat) : d.frame.toNat + page % coversN level ≤ 4095 ∧ ((d.frame.toNat : Nat) : Int) = d.frame := by
  obtain ⟨_, _, _, h2⟩ := may_kinds hd
  obtain ⟨h3, h4, h5, _, h6⟩ := h2 hk
  have hp : level = 1 ∨ level = 2 ∨ level = 3 := by omega
  have hc := coversN_eq hl
  rcases hp with rfl | rfl | rfl <;> simp at hc <;> rw [hc] at h6 ⊢ <;> omega
theorem leafA_ok {c : AcC} (hk : AcOk c) {ds : List IvD} {s : AcS} (hE : EsOk c.ws.length s.es ds) {level : Nat} {d : DsD} (hm : leafM c level d ≤ 4095) : StOk c.ws.length ds 4 s (leafA c s level d).s ∧ ((leafA c s level d).f.kind = 0 → hasF c.ws.length (leafA c s level d).n = true) := by
  obtain ⟨h1, h2⟩ := midA_ok hk hE hm c.acc
  unfold leafA
  generalize midA c s (leafM c level d) c.acc = M at h1 h2 ⊢
  generalize flagL d.r d.w d.x d.af c.acc 1 level c.page = F
  cases hc : decide (F.kind = 0) with
  | false =>
    simp only [Bool.not_false, cond_true]
    refine ⟨⟨hE, by omega⟩, fun h => ?_⟩
    simp [h] at hc
  | true =>
    simp only [Bool.not_true, cond_false]
    cases hc2 : decide (M.f.kind = 0) with
    | false =>
      simp only [Bool.not_false, cond_true]
      refine ⟨h1, fun h => ?_⟩
      simp [h] at hc2
    | true =>
      obtain ⟨h3, h4, _⟩ := h2 (of_decide_eq_true hc2)
      simp only [Bool.not_true, cond_false]
      refine ⟨⟨?_, h1.rd⟩, fun _ => h3⟩
      cases c.pk.fill with
      | false => exact h1.es
      | true => exact fill_ok h1.es (entH_may hk hm h3) h3
def stgT (c : AcC) (k level : Nat) (mid : Nat) (s : AcS) : StR := bif !decide ((tblA c s mid level).f.kind = 0) then ⟨(tblA c s mid level).s, 0, (tblA c s mid level).f⟩ else stgA c k level (tblA c s mid level).n (tblA c s mid level).s
theorem stgA_ok {c : AcC} (hk : AcOk c) {ds : List IvD} : ∀ (k level : Nat) (f : Int) (s : AcS), level + k = 4 → EsOk c.ws.length s.es ds → StOk c.ws.length ds (5 * k) s (stgA c k level f s).s := by
  intro k
  induction k with
  | zero => intro level f s hl hE; exact ⟨hE, Nat.le_refl _⟩
  | succ k ih =>
    intro level f s hl hE
    rw [stgA]
    have hmay := dSt_may c.ws 1 (atN f level c.page) level
    generalize dSt c.ws 1 (atN f level c.page) level = d at hmay ⊢
    obtain ⟨hkk, hk0, hk1, hk2⟩ := may_kinds hmay
    cases h1 : decide (d.kind = 1) with
    | true =>
      obtain ⟨g1, g2, g3, g4⟩ := hk1 (of_decide_eq_true h1)
      obtain ⟨h2, h3⟩ := tblA_ok hk (s := ⟨s.es, s.rd ++ [f]⟩) hE (mid := d.frame.toNat) (level := level + 1) (by omega) (by omega)
      have h4 := h2.rd
      simp only [List.length_append, List.length_singleton] at h4
      simp only [cond_true]
      generalize tblA c ⟨s.es, s.rd ++ [f]⟩ d.frame.toNat (level + 1) = T at h2 h3 h4 ⊢
      cases hc : decide (T.f.kind = 0) with
      | false => simp only [Bool.not_false, cond_true]; exact ⟨h2.es, by omega⟩
      | true =>
        simp only [Bool.not_true, cond_false]
        have := ih (level + 1) T.n T.s (by omega) h2.es
        exact ⟨this.es, by have := this.rd; omega⟩
    | false =>
      simp only [cond_false]
      cases h0 : decide (d.kind = 0) with
      | true => simp only [cond_true]; exact ⟨hE, by simp only [List.length_append, List.length_singleton]; omega⟩
      | false =>
        simp only [cond_false]
        have hd2 : d.kind = 2 := by simp at h1 h0; omega
        have := (leafA_ok hk (s := ⟨s.es, s.rd ++ [f]⟩) hE (d := d) (level := level) (leaf_mid hmay hd2 (by omega) c.page).1).1
        exact ⟨this.es, by have := this.rd; simp only [List.length_append, List.length_singleton] at this; omega⟩
theorem rootA_ok {c : AcC} (hk : AcOk c) {ds : List IvD} {s : AcS} (hE : EsOk c.ws.length s.es ds) : StOk c.ws.length ds 24 s (rootA c s).s := by
  have h1 := RtD.may_iff hk.one
  obtain ⟨h2, h3⟩ := tblA_ok hk hE (mid := c.one.frame.toNat) (level := 0) (by omega) (by omega)
  unfold rootA
  generalize tblA c s c.one.frame.toNat 0 = T at h2 h3 ⊢
  cases hc : decide (T.f.kind = 0) with
  | false => simp only [Bool.not_false, cond_true]; exact ⟨h2.es, by have := h2.rd; omega⟩
  | true =>
    simp only [Bool.not_true, cond_false]
    have := stgA_ok hk 4 0 T.n T.s rfl h2.es
    exact ⟨this.es, by have := this.rd; have := h2.rd; omega⟩
theorem bestI_at {es : List EnD} {q : EnD → Bool} : ∀ k, 0 ≤ bestI es q k → q (es.getD (bestI es q k).toNat default) = true := by
  intro k
  induction k with
  | zero => intro h; rw [bestI] at h; omega
  | succ k ih =>
    intro h
    rw [bestI] at h ⊢
    cases hc : (q (es.getD k default) && (decide (bestI es q k < 0) || decide ((es.getD (bestI es q k).toNat default).level < (es.getD k default).level))) with
    | true => rw [Bool.and_eq_true] at hc; simpa using hc.1
    | false => rw [hc] at h; exact ih h
theorem may_lv {e : EnD} (h : e.may = true) (hk : e.kind = 3) : 1 ≤ e.level ∧ e.level ≤ 3 := by
  simp only [EnD.may, hk, decide_true, show decide ((3 : Int) = 1) = false from rfl, show decide ((3 : Int) = 2) = false from rfl, cond_true, cond_false, Bool.and_eq_true, PtD.btw, decide_eq_true_eq] at h
  exact h.2.1.1.1
theorem walk_at {c : AcC} {ds : List IvD} {es : List EnD} (hE : EsOk c.ws.length es ds) (h : 0 ≤ walkI c es) : (walkI c es).toNat < es.length ∧ 1 ≤ (es.getD (walkI c es).toNat default).level ∧ (es.getD (walkI c es).toNat default).level ≤ 3 ∧ hasF c.ws.length (es.getD (walkI c es).toNat default).frame = true := by
  have h1 := (bestI_lt (es := es) (q := pWlk c.two.tag c.one.tag c.page) es.length).2
  have h2 := bestI_at (es := es) (q := pWlk c.two.tag c.one.tag c.page) es.length h
  have h3 : (walkI c es).toNat < es.length := by simp only [walkI] at h ⊢; omega
  have h4 := hE.may_of h3
  simp only [pWlk, Bool.and_eq_true, decide_eq_true_eq] at h2
  have h5 := may_lv h4.1 h2.1.1
  exact ⟨h3, h5.1, h5.2, h4.2⟩
theorem pageB_ok {c : AcC} (hk : AcOk c) {ds : List IvD} {es : List EnD} (hE : EsOk c.ws.length es ds) : StOk c.ws.length ds 24 ⟨es, []⟩ (pageB c es).s := by
  unfold pageB
  cases c.one.on with
  | false =>
    simp only [Bool.not_false, cond_true]
    obtain ⟨h1, _⟩ := midA_ok hk (s := ⟨es, []⟩) hE hk.page c.acc
    exact ⟨h1.es, by have := h1.rd; omega⟩
  | true =>
    simp only [Bool.not_true, cond_false]
    cases hc : (c.pk.use && decide (0 ≤ wholeI c es)) with
    | true => simp only [cond_true]; exact ⟨hE, by simp⟩
    | false =>
      simp only [cond_false]
      unfold pageW
      cases hc2 : (c.pk.use && decide (0 ≤ walkI c es)) with
      | true =>
        rw [Bool.and_eq_true, decide_eq_true_eq] at hc2
        obtain ⟨h1, h2, h3, h4⟩ := walk_at hE hc2.2
        simp only [cond_true]
        have := stgA_ok hk (ds := ds) (4 - (es.getD (walkI c es).toNat default).level.toNat) (es.getD (walkI c es).toNat default).level.toNat (es.getD (walkI c es).toNat default).frame ⟨es, []⟩ (by omega) hE
        exact ⟨this.es, by have := this.rd; omega⟩
      | false =>
        simp only [cond_false]
        have := rootA_ok hk (s := ⟨es, []⟩) hE
        exact ⟨this.es, by have := this.rd; omega⟩
theorem pageA_ok {c : AcC} (hk : AcOk c) {ds : List IvD} {es : List EnD} (hE : EsOk c.ws.length es ds) : StOk c.ws.length ds 24 ⟨es, []⟩ (pageA c es).s := by
  have := pageB_ok hk (drop_ok hE c.pk.drop)
  exact ⟨this.es, this.rd⟩
end Go.Proofs.YtdaenalnmdmflaaGreat
namespace Go.Proofs.YtdaenalnmdmflaaGreat
open Go.RowKit
set_option linter.unusedVariables false
set_option linter.unusedSimpArgs false
set_option maxRecDepth 20000
section
variable {P : Program} {n : Nat} {w0 : World} {mu : List Nat} {l : Fm} {h0 hp hc : Hp} {Q : Exit → Fm → Hp → Prop} {all : Array Oper} {ds : List (Nat × Nat)} {t0 : Nat} {i d : Nat} {iv fr : Fm} {rest : List Oper} {op : Op} {ty : TypeId} {pos : String} {af : Array Edge} {j : Nat} {want : Bool} {dj : Nat} {b : Bool}
theorem dwf_ag {v : Value} (hlk : lk ds i = some d) (hwt : Region.waitsFor .any all t0 i = true) (hj : (all[j]?).bind (·.dst) = some dj) (hb : look (depFm ds iv af.toList ++ l) dj = some (.bool b)) (hdj : Nat.blt dj n = true)
    (hy : wnt b want = true → Hy P n w0 mu (depFm ds iv af.toList ++ l) hp ⟨some d, op, ty, pos, af, some (j, want)⟩ v)
    (h : DWF P n w0 mu all ds l h0 hp t0 Q (i + 1) rest ((i, gv (wnt b want) v) :: iv) ((d, gv (wnt b want) v) :: fr) hc) : DWF P n w0 mu all ds l h0 hp t0 Q i (⟨some d, op, ty, pos, af, some (j, want)⟩ :: rest) iv fr hc :=
  fun e => ⟨_, fun hx => by rw [hwt]; exact ⟨dj, true, b, v, hj, hb, hdj, fun _ => hy, rfl⟩, h (headFm_cons hlk e)⟩
theorem dwf_bg {v : Value} (hlk : lk ds i = some d) (hwt : Region.waitsFor .any all t0 i = false) (hj : (all[j]?).bind (·.dst) = some dj) (hb : look (depFm ds iv af.toList ++ l) dj = some (.bool b)) (hdj : Nat.blt dj n = true)
    (hy : ∀ hx, wnt b want = true → Hy P n w0 mu (depFm ds iv af.toList ++ l) (hx ++ h0) ⟨some d, op, ty, pos, af, some (j, want)⟩ v)
    (h : DWF P n w0 mu all ds l h0 hp t0 Q (i + 1) rest ((i, gv (wnt b want) v) :: iv) ((d, gv (wnt b want) v) :: fr) hc) : DWF P n w0 mu all ds l h0 hp t0 Q i (⟨some d, op, ty, pos, af, some (j, want)⟩ :: rest) iv fr hc :=
  fun e => ⟨_, fun hx => by rw [hwt]; exact ⟨dj, true, b, v, hj, hb, hdj, fun _ => hy hx, rfl⟩, h (headFm_cons hlk e)⟩
end
section
variable {n : Nat} {w0 : World} {mu : List Nat} {l : Fm} {hp : Hp} {dd : Option Tmp} {ty : TypeId} {pos : String} {af : Array Edge} {gg : Option (Nat × Bool)}
theorem x_loadW {t : TypeId} {x : Operand} {b off : Nat} {v : Value} (hs : mem Tb.sc t = true) (hx : ev l x = some (.pointer (some ⟨b, off, none⟩))) (hc : ∀ w, Good w0 mu hp w → w.cell? ⟨b, off, none⟩ = some v) : Hy Tryz.prog n w0 mu l hp ⟨dd, .load t x, ty, pos, af, gg⟩ v :=
  hy_run fun a w hk hG => by
    simp only [execOp, hk.ev hx]
    simp [run_load_sc (tb_ok.gsc hs) (hc w hG)]
end
section
variable {n : Nat} {w0 : World} {mu : List Nat} {l : Fm} {h0 hp hc : Hp} {all : Array Oper} {iv ivS ivE : Fm} {i d : Nat} {ds : List (Nat × Nat)} {r : List Nat} {Y : Fm → Hp → Prop} {ty : TypeId} {pos : String} {af : Array Edge}
theorem cBox {t : TypeId} {x : Operand} {v : Value} {cs : List Value} (h : ∀ b, DCh Tryz.prog n w0 mu all ds l h0 ivS Y r ((i, .pointer (some ⟨b, 0, none⟩)) :: ivE) (⟨b, cs.toArray, t⟩ :: hc)) (ho : all[i]? = some ⟨some d, .box t x, ty, pos, af, none⟩ := by rfl) (hx : ev (depFm ds (ivE ++ ivS) af.toList ++ l) x = some v := by rfl) (hcs : v.cells = cs.toArray := by (first | ((simp only [Value.cells]) <;> rfl) | rfl)) : DCh Tryz.prog n w0 mu all ds l h0 ivS Y (i :: r) ivE hc :=
  dc_e ho (eo_box hx hcs) (by rintro _ _ ⟨b, rfl, rfl⟩; exact h b)
end
attribute [local irreducible] Hy St Ops DH DHF DE1 DE2 DE3 DS DCh DWF
theorem runWG {G R : Prop} (k : R) (h : RestP R → G := by (intro kLeft; (repeat (first | (with_reducible apply dwf_nil) | ((with_reducible apply dwf_a); rfl; decide +kernel; (first | ((with_reducible apply x_move); rfl) | ((with_reducible apply x_assign); rfl) | ((with_reducible apply x_field tb_ok); rfl; rfl; rfl; (first | ((simp only [Nat.reduceAdd, Nat.reduceMul, Nat.zero_add, Nat.add_zero, Nat.mul_one, Nat.zero_mul, Int.toNat_zero, Int.toNat_one, Int.reduceToNat]) <;> rfl) | rfl)) | ((with_reducible apply x_load tb_ok); rfl; rfl; (first | (with_reducible apply mh) | (focus ((repeat (first | (with_reducible apply mh) | (with_reducible apply mt) | (with_reducible apply List.mem_append_right))); done))); (first | rfl | assumption)) | ((with_reducible apply x_load0 tb_ok); rfl; rfl; assumption; (first | exact List.not_mem_nil | assumption)) | ((with_reducible apply x_loadA tb_ok); rfl; rfl; rfl; (first | (with_reducible apply mh) | (focus ((repeat (first | (with_reducible apply mh) | (with_reducible apply mt) | (with_reducible apply List.mem_append_right))); done))); (first | assumption | (first | ((simp only [putAt, List.toList_toArray, List.setIfInBounds_toArray, List.set_cons_zero, List.set_cons_succ, List.drop_succ_cons, List.drop_zero, List.take_succ_cons, List.take_zero, List.cons_append, List.nil_append, List.append_nil]) <;> rfl) | rfl)); rfl) | ((with_reducible apply x_loadA0 tb_ok); rfl; rfl; rfl; assumption; rfl; (first | exact List.not_mem_nil | assumption)) | ((with_reducible apply x_indexN tb_ok); rfl; rfl; rfl; omega; (first | ((simp only [Nat.reduceAdd, Nat.reduceMul, Nat.zero_add, Nat.add_zero, Nat.mul_one, Nat.zero_mul, Int.toNat_zero, Int.toNat_one, Int.reduceToNat]) <;> rfl) | rfl)) | ((with_reducible apply x_indexRN tb_ok); rfl; rfl; rfl; omega; (first | ((simp only [Nat.reduceAdd, Nat.reduceMul, Nat.zero_add, Nat.add_zero, Nat.mul_one, Nat.zero_mul, Int.toNat_zero, Int.toNat_one, Int.reduceToNat]) <;> rfl) | rfl)) | ((with_reducible apply x_index tb_ok); rfl; rfl; rfl; omega; omega; (first | ((simp only [Nat.reduceAdd, Nat.reduceMul, Nat.zero_add, Nat.add_zero, Nat.mul_one, Nat.zero_mul, Int.toNat_zero, Int.toNat_one, Int.reduceToNat]) <;> rfl) | rfl)) | ((with_reducible apply x_indexR tb_ok); rfl; rfl; rfl; omega; omega; (first | ((simp only [Nat.reduceAdd, Nat.reduceMul, Nat.zero_add, Nat.add_zero, Nat.mul_one, Nat.zero_mul, Int.toNat_zero, Int.toNat_one, Int.reduceToNat]) <;> rfl) | rfl)) | ((with_reducible apply x_len tb_ok); rfl; rfl) | ((with_reducible apply x_orT); rfl; rfl) | ((with_reducible apply x_andF); rfl; rfl) | ((with_reducible apply x_or); rfl; rfl) | ((with_reducible apply x_and); rfl; rfl) | ((with_reducible apply x_pick); rfl; rfl; rfl) | ((with_reducible apply x_not); rfl) | ((with_reducible apply x_extract); rfl; rfl) | ((with_reducible apply x_nilCheck); rfl) | ((with_reducible apply x_lss); rfl; rfl) | ((with_reducible apply x_leq); rfl; rfl) | ((with_reducible apply x_gtr); rfl; rfl) | ((with_reducible apply x_geq); rfl; rfl) | ((with_reducible apply x_eql); rfl; rfl) | ((with_reducible apply x_neq); rfl; rfl) | ((with_reducible apply x_eqlb tb_ok); rfl; rfl; rfl) | ((with_reducible apply x_neqb tb_ok); rfl; rfl; rfl) | ((with_reducible apply x_eqlA lt_ok); rfl; rfl; rfl; rfl; rfl) | ((with_reducible apply x_neqA lt_ok); rfl; rfl; rfl; rfl; rfl) | ((with_reducible apply x_inc); rfl; rfl; omega) | ((with_reducible apply x_add); rfl; rfl; omega; omega) | ((with_reducible apply x_sub); rfl; rfl; omega; omega) | ((with_reducible apply x_mul); rfl; rfl; omega; omega) | ((with_reducible apply x_convI tb_ok); rfl; rfl; rfl; omega; omega) | ((with_reducible apply x_convU tb_ok); rfl; rfl; rfl; omega; omega) | ((with_reducible apply x_build tb_ok); rfl; (first | ((simp only [Value.cells]) <;> rfl) | rfl); rfl; rfl; rfl; (first | ((simp only [putAt, Value.cells, List.toList_toArray, List.setIfInBounds_toArray, List.set_cons_zero, List.set_cons_succ, List.drop_succ_cons, List.drop_zero, List.take_succ_cons, List.take_zero, List.cons_append, List.nil_append, List.append_nil]) <;> rfl) | rfl)) | ((with_reducible apply x_makeFunc); rfl; rfl) | ((with_reducible apply x_addW); rfl; rfl) | ((with_reducible apply x_subW); rfl; rfl))) | ((with_reducible apply dwf_b); rfl; decide +kernel; (intro hxS; (first | ((with_reducible apply x_move); rfl) | ((with_reducible apply x_assign); rfl) | ((with_reducible apply x_field tb_ok); rfl; rfl; rfl; (first | ((simp only [Nat.reduceAdd, Nat.reduceMul, Nat.zero_add, Nat.add_zero, Nat.mul_one, Nat.zero_mul, Int.toNat_zero, Int.toNat_one, Int.reduceToNat]) <;> rfl) | rfl)) | ((with_reducible apply x_load tb_ok); rfl; rfl; (first | (with_reducible apply mh) | (focus ((repeat (first | (with_reducible apply mh) | (with_reducible apply mt) | (with_reducible apply List.mem_append_right))); done))); (first | rfl | assumption)) | ((with_reducible apply x_load0 tb_ok); rfl; rfl; assumption; (first | exact List.not_mem_nil | assumption)) | ((with_reducible apply x_loadA tb_ok); rfl; rfl; rfl; (first | (with_reducible apply mh) | (focus ((repeat (first | (with_reducible apply mh) | (with_reducible apply mt) | (with_reducible apply List.mem_append_right))); done))); (first | assumption | (first | ((simp only [putAt, List.toList_toArray, List.setIfInBounds_toArray, List.set_cons_zero, List.set_cons_succ, List.drop_succ_cons, List.drop_zero, List.take_succ_cons, List.take_zero, List.cons_append, List.nil_append, List.append_nil]) <;> rfl) | rfl)); rfl) | ((with_reducible apply x_loadA0 tb_ok); rfl; rfl; rfl; assumption; rfl; (first | exact List.not_mem_nil | assumption)) | ((with_reducible apply x_indexN tb_ok); rfl; rfl; rfl; omega; (first | ((simp only [Nat.reduceAdd, Nat.reduceMul, Nat.zero_add, Nat.add_zero, Nat.mul_one, Nat.zero_mul, Int.toNat_zero, Int.toNat_one, Int.reduceToNat]) <;> rfl) | rfl)) | ((with_reducible apply x_indexRN tb_ok); rfl; rfl; rfl; omega; (first | ((simp only [Nat.reduceAdd, Nat.reduceMul, Nat.zero_add, Nat.add_zero, Nat.mul_one, Nat.zero_mul, Int.toNat_zero, Int.toNat_one, Int.reduceToNat]) <;> rfl) | rfl)) | ((with_reducible apply x_index tb_ok); rfl; rfl; rfl; omega; omega; (first | ((simp only [Nat.reduceAdd, Nat.reduceMul, Nat.zero_add, Nat.add_zero, Nat.mul_one, Nat.zero_mul, Int.toNat_zero, Int.toNat_one, Int.reduceToNat]) <;> rfl) | rfl)) | ((with_reducible apply x_indexR tb_ok); rfl; rfl; rfl; omega; omega; (first | ((simp only [Nat.reduceAdd, Nat.reduceMul, Nat.zero_add, Nat.add_zero, Nat.mul_one, Nat.zero_mul, Int.toNat_zero, Int.toNat_one, Int.reduceToNat]) <;> rfl) | rfl)) | ((with_reducible apply x_len tb_ok); rfl; rfl) | ((with_reducible apply x_orT); rfl; rfl) | ((with_reducible apply x_andF); rfl; rfl) | ((with_reducible apply x_or); rfl; rfl) | ((with_reducible apply x_and); rfl; rfl) | ((with_reducible apply x_pick); rfl; rfl; rfl) | ((with_reducible apply x_not); rfl) | ((with_reducible apply x_extract); rfl; rfl) | ((with_reducible apply x_nilCheck); rfl) | ((with_reducible apply x_lss); rfl; rfl) | ((with_reducible apply x_leq); rfl; rfl) | ((with_reducible apply x_gtr); rfl; rfl) | ((with_reducible apply x_geq); rfl; rfl) | ((with_reducible apply x_eql); rfl; rfl) | ((with_reducible apply x_neq); rfl; rfl) | ((with_reducible apply x_eqlb tb_ok); rfl; rfl; rfl) | ((with_reducible apply x_neqb tb_ok); rfl; rfl; rfl) | ((with_reducible apply x_eqlA lt_ok); rfl; rfl; rfl; rfl; rfl) | ((with_reducible apply x_neqA lt_ok); rfl; rfl; rfl; rfl; rfl) | ((with_reducible apply x_inc); rfl; rfl; omega) | ((with_reducible apply x_add); rfl; rfl; omega; omega) | ((with_reducible apply x_sub); rfl; rfl; omega; omega) | ((with_reducible apply x_mul); rfl; rfl; omega; omega) | ((with_reducible apply x_convI tb_ok); rfl; rfl; rfl; omega; omega) | ((with_reducible apply x_convU tb_ok); rfl; rfl; rfl; omega; omega) | ((with_reducible apply x_build tb_ok); rfl; (first | ((simp only [Value.cells]) <;> rfl) | rfl); rfl; rfl; rfl; (first | ((simp only [putAt, Value.cells, List.toList_toArray, List.setIfInBounds_toArray, List.set_cons_zero, List.set_cons_succ, List.drop_succ_cons, List.drop_zero, List.take_succ_cons, List.take_zero, List.cons_append, List.nil_append, List.append_nil]) <;> rfl) | rfl)) | ((with_reducible apply x_makeFunc); rfl; rfl) | ((with_reducible apply x_addW); rfl; rfl) | ((with_reducible apply x_subW); rfl; rfl)))) | ((with_reducible apply dwf_s tb_ok); rfl; rfl; (first | ((simp only [Value.cells]) <;> rfl) | rfl); rfl; rfl; (first | (with_reducible apply p0) | (with_reducible apply p1) | (with_reducible apply p2) | (with_reducible apply p3) | (with_reducible apply p4) | (with_reducible apply p5)); (first | rfl | (focus (simp; done))); (first | omega | (focus (simp; done)) | (focus (simp; omega))); (first | ((simp only [putAt, List.toList_toArray, List.setIfInBounds_toArray, List.set_cons_zero, List.set_cons_succ, List.drop_succ_cons, List.drop_zero, List.take_succ_cons, List.take_zero, List.cons_append, List.nil_append, List.append_nil]) <;> rfl) | rfl); (refine hpLe_cnt fun a => ?_; simp only [cntB_app, cntB_cons, cntB_nil]; omega)) | ((with_reducible apply dwf_ag); rfl; decide +kernel; rfl; rfl; rfl; (intro hg1; (try simp only [hg1, gv_true, Bool.true_and]); (first | ((with_reducible apply x_move); rfl) | ((with_reducible apply x_assign); rfl) | ((with_reducible apply x_field tb_ok); rfl; rfl; rfl; (first | ((simp only [Nat.reduceAdd, Nat.reduceMul, Nat.zero_add, Nat.add_zero, Nat.mul_one, Nat.zero_mul, Int.toNat_zero, Int.toNat_one, Int.reduceToNat]) <;> rfl) | rfl)) | ((with_reducible apply x_load tb_ok); rfl; rfl; (first | (with_reducible apply mh) | (focus ((repeat (first | (with_reducible apply mh) | (with_reducible apply mt) | (with_reducible apply List.mem_append_right))); done))); (first | rfl | assumption)) | ((with_reducible apply x_load0 tb_ok); rfl; rfl; assumption; (first | exact List.not_mem_nil | assumption)) | ((with_reducible apply x_loadA tb_ok); rfl; rfl; rfl; (first | (with_reducible apply mh) | (focus ((repeat (first | (with_reducible apply mh) | (with_reducible apply mt) | (with_reducible apply List.mem_append_right))); done))); (first | assumption | (first | ((simp only [putAt, List.toList_toArray, List.setIfInBounds_toArray, List.set_cons_zero, List.set_cons_succ, List.drop_succ_cons, List.drop_zero, List.take_succ_cons, List.take_zero, List.cons_append, List.nil_append, List.append_nil]) <;> rfl) | rfl)); rfl) | ((with_reducible apply x_loadA0 tb_ok); rfl; rfl; rfl; assumption; rfl; (first | exact List.not_mem_nil | assumption)) | ((with_reducible apply x_indexN tb_ok); rfl; rfl; rfl; (first | omega | ((try simp only [wnt, cond_true, cond_false, decide_eq_true_eq, Bool.not_eq_true', decide_eq_false_iff_not, Bool.and_eq_true, Bool.or_eq_true] at *); omega)); (first | ((simp only [Nat.reduceAdd, Nat.reduceMul, Nat.zero_add, Nat.add_zero, Nat.mul_one, Nat.zero_mul, Int.toNat_zero, Int.toNat_one, Int.reduceToNat]) <;> rfl) | rfl)) | ((with_reducible apply x_indexRN tb_ok); rfl; rfl; rfl; (first | omega | ((try simp only [wnt, cond_true, cond_false, decide_eq_true_eq, Bool.not_eq_true', decide_eq_false_iff_not, Bool.and_eq_true, Bool.or_eq_true] at *); omega)); (first | ((simp only [Nat.reduceAdd, Nat.reduceMul, Nat.zero_add, Nat.add_zero, Nat.mul_one, Nat.zero_mul, Int.toNat_zero, Int.toNat_one, Int.reduceToNat]) <;> rfl) | rfl)) | ((with_reducible apply x_index tb_ok); rfl; rfl; rfl; (first | omega | ((try simp only [wnt, cond_true, cond_false, decide_eq_true_eq, Bool.not_eq_true', decide_eq_false_iff_not, Bool.and_eq_true, Bool.or_eq_true] at *); omega)); (first | omega | ((try simp only [wnt, cond_true, cond_false, decide_eq_true_eq, Bool.not_eq_true', decide_eq_false_iff_not, Bool.and_eq_true, Bool.or_eq_true] at *); omega)); (first | ((simp only [Nat.reduceAdd, Nat.reduceMul, Nat.zero_add, Nat.add_zero, Nat.mul_one, Nat.zero_mul, Int.toNat_zero, Int.toNat_one, Int.reduceToNat]) <;> rfl) | rfl)) | ((with_reducible apply x_indexR tb_ok); rfl; rfl; rfl; (first | omega | ((try simp only [wnt, cond_true, cond_false, decide_eq_true_eq, Bool.not_eq_true', decide_eq_false_iff_not, Bool.and_eq_true, Bool.or_eq_true] at *); omega)); (first | omega | ((try simp only [wnt, cond_true, cond_false, decide_eq_true_eq, Bool.not_eq_true', decide_eq_false_iff_not, Bool.and_eq_true, Bool.or_eq_true] at *); omega)); (first | ((simp only [Nat.reduceAdd, Nat.reduceMul, Nat.zero_add, Nat.add_zero, Nat.mul_one, Nat.zero_mul, Int.toNat_zero, Int.toNat_one, Int.reduceToNat]) <;> rfl) | rfl)) | ((with_reducible apply x_len tb_ok); rfl; rfl) | ((with_reducible apply x_orT); rfl; rfl) | ((with_reducible apply x_andF); rfl; rfl) | ((with_reducible apply x_or); rfl; rfl) | ((with_reducible apply x_and); rfl; rfl) | ((with_reducible apply x_pick); rfl; rfl; rfl) | ((with_reducible apply x_not); rfl) | ((with_reducible apply x_extract); rfl; rfl) | ((with_reducible apply x_nilCheck); rfl) | ((with_reducible apply x_lss); rfl; rfl) | ((with_reducible apply x_leq); rfl; rfl) | ((with_reducible apply x_gtr); rfl; rfl) | ((with_reducible apply x_geq); rfl; rfl) | ((with_reducible apply x_eql); rfl; rfl) | ((with_reducible apply x_neq); rfl; rfl) | ((with_reducible apply x_eqlb tb_ok); rfl; rfl; rfl) | ((with_reducible apply x_neqb tb_ok); rfl; rfl; rfl) | ((with_reducible apply x_eqlA lt_ok); rfl; rfl; rfl; rfl; rfl) | ((with_reducible apply x_neqA lt_ok); rfl; rfl; rfl; rfl; rfl) | ((with_reducible apply x_inc); rfl; rfl; (first | omega | ((try simp only [wnt, cond_true, cond_false, decide_eq_true_eq, Bool.not_eq_true', decide_eq_false_iff_not, Bool.and_eq_true, Bool.or_eq_true] at *); omega))) | ((with_reducible apply x_add); rfl; rfl; (first | omega | ((try simp only [wnt, cond_true, cond_false, decide_eq_true_eq, Bool.not_eq_true', decide_eq_false_iff_not, Bool.and_eq_true, Bool.or_eq_true] at *); omega)); (first | omega | ((try simp only [wnt, cond_true, cond_false, decide_eq_true_eq, Bool.not_eq_true', decide_eq_false_iff_not, Bool.and_eq_true, Bool.or_eq_true] at *); omega))) | ((with_reducible apply x_sub); rfl; rfl; (first | omega | ((try simp only [wnt, cond_true, cond_false, decide_eq_true_eq, Bool.not_eq_true', decide_eq_false_iff_not, Bool.and_eq_true, Bool.or_eq_true] at *); omega)); (first | omega | ((try simp only [wnt, cond_true, cond_false, decide_eq_true_eq, Bool.not_eq_true', decide_eq_false_iff_not, Bool.and_eq_true, Bool.or_eq_true] at *); omega))) | ((with_reducible apply x_mul); rfl; rfl; (first | omega | ((try simp only [wnt, cond_true, cond_false, decide_eq_true_eq, Bool.not_eq_true', decide_eq_false_iff_not, Bool.and_eq_true, Bool.or_eq_true] at *); omega)); (first | omega | ((try simp only [wnt, cond_true, cond_false, decide_eq_true_eq, Bool.not_eq_true', decide_eq_false_iff_not, Bool.and_eq_true, Bool.or_eq_true] at *); omega))) | ((with_reducible apply x_convI tb_ok); rfl; rfl; rfl; (first | omega | ((try simp only [wnt, cond_true, cond_false, decide_eq_true_eq, Bool.not_eq_true', decide_eq_false_iff_not, Bool.and_eq_true, Bool.or_eq_true] at *); omega)); (first | omega | ((try simp only [wnt, cond_true, cond_false, decide_eq_true_eq, Bool.not_eq_true', decide_eq_false_iff_not, Bool.and_eq_true, Bool.or_eq_true] at *); omega))) | ((with_reducible apply x_convU tb_ok); rfl; rfl; rfl; (first | omega | ((try simp only [wnt, cond_true, cond_false, decide_eq_true_eq, Bool.not_eq_true', decide_eq_false_iff_not, Bool.and_eq_true, Bool.or_eq_true] at *); omega)); (first | omega | ((try simp only [wnt, cond_true, cond_false, decide_eq_true_eq, Bool.not_eq_true', decide_eq_false_iff_not, Bool.and_eq_true, Bool.or_eq_true] at *); omega))) | ((with_reducible apply x_build tb_ok); rfl; (first | ((simp only [Value.cells]) <;> rfl) | rfl); rfl; rfl; rfl; (first | ((simp only [putAt, Value.cells, List.toList_toArray, List.setIfInBounds_toArray, List.set_cons_zero, List.set_cons_succ, List.drop_succ_cons, List.drop_zero, List.take_succ_cons, List.take_zero, List.cons_append, List.nil_append, List.append_nil]) <;> rfl) | rfl)) | ((with_reducible apply x_makeFunc); rfl; rfl) | ((with_reducible apply x_addW); rfl; rfl) | ((with_reducible apply x_subW); rfl; rfl)))) | ((with_reducible apply dwf_bg); rfl; decide +kernel; rfl; rfl; rfl; (intro hxS; intro hg1; (try simp only [hg1, gv_true, Bool.true_and]); (first | ((with_reducible apply x_move); rfl) | ((with_reducible apply x_assign); rfl) | ((with_reducible apply x_field tb_ok); rfl; rfl; rfl; (first | ((simp only [Nat.reduceAdd, Nat.reduceMul, Nat.zero_add, Nat.add_zero, Nat.mul_one, Nat.zero_mul, Int.toNat_zero, Int.toNat_one, Int.reduceToNat]) <;> rfl) | rfl)) | ((with_reducible apply x_load tb_ok); rfl; rfl; (first | (with_reducible apply mh) | (focus ((repeat (first | (with_reducible apply mh) | (with_reducible apply mt) | (with_reducible apply List.mem_append_right))); done))); (first | rfl | assumption)) | ((with_reducible apply x_load0 tb_ok); rfl; rfl; assumption; (first | exact List.not_mem_nil | assumption)) | ((with_reducible apply x_loadA tb_ok); rfl; rfl; rfl; (first | (with_reducible apply mh) | (focus ((repeat (first | (with_reducible apply mh) | (with_reducible apply mt) | (with_reducible apply List.mem_append_right))); done))); (first | assumption | (first | ((simp only [putAt, List.toList_toArray, List.setIfInBounds_toArray, List.set_cons_zero, List.set_cons_succ, List.drop_succ_cons, List.drop_zero, List.take_succ_cons, List.take_zero, List.cons_append, List.nil_append, List.append_nil]) <;> rfl) | rfl)); rfl) | ((with_reducible apply x_loadA0 tb_ok); rfl; rfl; rfl; assumption; rfl; (first | exact List.not_mem_nil | assumption)) | ((with_reducible apply x_indexN tb_ok); rfl; rfl; rfl; (first | omega | ((try simp only [wnt, cond_true, cond_false, decide_eq_true_eq, Bool.not_eq_true', decide_eq_false_iff_not, Bool.and_eq_true, Bool.or_eq_true] at *); omega)); (first | ((simp only [Nat.reduceAdd, Nat.reduceMul, Nat.zero_add, Nat.add_zero, Nat.mul_one, Nat.zero_mul, Int.toNat_zero, Int.toNat_one, Int.reduceToNat]) <;> rfl) | rfl)) | ((with_reducible apply x_indexRN tb_ok); rfl; rfl; rfl; (first | omega | ((try simp only [wnt, cond_true, cond_false, decide_eq_true_eq, Bool.not_eq_true', decide_eq_false_iff_not, Bool.and_eq_true, Bool.or_eq_true] at *); omega)); (first | ((simp only [Nat.reduceAdd, Nat.reduceMul, Nat.zero_add, Nat.add_zero, Nat.mul_one, Nat.zero_mul, Int.toNat_zero, Int.toNat_one, Int.reduceToNat]) <;> rfl) | rfl)) | ((with_reducible apply x_index tb_ok); rfl; rfl; rfl; (first | omega | ((try simp only [wnt, cond_true, cond_false, decide_eq_true_eq, Bool.not_eq_true', decide_eq_false_iff_not, Bool.and_eq_true, Bool.or_eq_true] at *); omega)); (first | omega | ((try simp only [wnt, cond_true, cond_false, decide_eq_true_eq, Bool.not_eq_true', decide_eq_false_iff_not, Bool.and_eq_true, Bool.or_eq_true] at *); omega)); (first | ((simp only [Nat.reduceAdd, Nat.reduceMul, Nat.zero_add, Nat.add_zero, Nat.mul_one, Nat.zero_mul, Int.toNat_zero, Int.toNat_one, Int.reduceToNat]) <;> rfl) | rfl)) | ((with_reducible apply x_indexR tb_ok); rfl; rfl; rfl; (first | omega | ((try simp only [wnt, cond_true, cond_false, decide_eq_true_eq, Bool.not_eq_true', decide_eq_false_iff_not, Bool.and_eq_true, Bool.or_eq_true] at *); omega)); (first | omega | ((try simp only [wnt, cond_true, cond_false, decide_eq_true_eq, Bool.not_eq_true', decide_eq_false_iff_not, Bool.and_eq_true, Bool.or_eq_true] at *); omega)); (first | ((simp only [Nat.reduceAdd, Nat.reduceMul, Nat.zero_add, Nat.add_zero, Nat.mul_one, Nat.zero_mul, Int.toNat_zero, Int.toNat_one, Int.reduceToNat]) <;> rfl) | rfl)) | ((with_reducible apply x_len tb_ok); rfl; rfl) | ((with_reducible apply x_orT); rfl; rfl) | ((with_reducible apply x_andF); rfl; rfl) | ((with_reducible apply x_or); rfl; rfl) | ((with_reducible apply x_and); rfl; rfl) | ((with_reducible apply x_pick); rfl; rfl; rfl) | ((with_reducible apply x_not); rfl) | ((with_reducible apply x_extract); rfl; rfl) | ((with_reducible apply x_nilCheck); rfl) | ((with_reducible apply x_lss); rfl; rfl) | ((with_reducible apply x_leq); rfl; rfl) | ((with_reducible apply x_gtr); rfl; rfl) | ((with_reducible apply x_geq); rfl; rfl) | ((with_reducible apply x_eql); rfl; rfl) | ((with_reducible apply x_neq); rfl; rfl) | ((with_reducible apply x_eqlb tb_ok); rfl; rfl; rfl) | ((with_reducible apply x_neqb tb_ok); rfl; rfl; rfl) | ((with_reducible apply x_eqlA lt_ok); rfl; rfl; rfl; rfl; rfl) | ((with_reducible apply x_neqA lt_ok); rfl; rfl; rfl; rfl; rfl) | ((with_reducible apply x_inc); rfl; rfl; (first | omega | ((try simp only [wnt, cond_true, cond_false, decide_eq_true_eq, Bool.not_eq_true', decide_eq_false_iff_not, Bool.and_eq_true, Bool.or_eq_true] at *); omega))) | ((with_reducible apply x_add); rfl; rfl; (first | omega | ((try simp only [wnt, cond_true, cond_false, decide_eq_true_eq, Bool.not_eq_true', decide_eq_false_iff_not, Bool.and_eq_true, Bool.or_eq_true] at *); omega)); (first | omega | ((try simp only [wnt, cond_true, cond_false, decide_eq_true_eq, Bool.not_eq_true', decide_eq_false_iff_not, Bool.and_eq_true, Bool.or_eq_true] at *); omega))) | ((with_reducible apply x_sub); rfl; rfl; (first | omega | ((try simp only [wnt, cond_true, cond_false, decide_eq_true_eq, Bool.not_eq_true', decide_eq_false_iff_not, Bool.and_eq_true, Bool.or_eq_true] at *); omega)); (first | omega | ((try simp only [wnt, cond_true, cond_false, decide_eq_true_eq, Bool.not_eq_true', decide_eq_false_iff_not, Bool.and_eq_true, Bool.or_eq_true] at *); omega))) | ((with_reducible apply x_mul); rfl; rfl; (first | omega | ((try simp only [wnt, cond_true, cond_false, decide_eq_true_eq, Bool.not_eq_true', decide_eq_false_iff_not, Bool.and_eq_true, Bool.or_eq_true] at *); omega)); (first | omega | ((try simp only [wnt, cond_true, cond_false, decide_eq_true_eq, Bool.not_eq_true', decide_eq_false_iff_not, Bool.and_eq_true, Bool.or_eq_true] at *); omega))) | ((with_reducible apply x_convI tb_ok); rfl; rfl; rfl; (first | omega | ((try simp only [wnt, cond_true, cond_false, decide_eq_true_eq, Bool.not_eq_true', decide_eq_false_iff_not, Bool.and_eq_true, Bool.or_eq_true] at *); omega)); (first | omega | ((try simp only [wnt, cond_true, cond_false, decide_eq_true_eq, Bool.not_eq_true', decide_eq_false_iff_not, Bool.and_eq_true, Bool.or_eq_true] at *); omega))) | ((with_reducible apply x_convU tb_ok); rfl; rfl; rfl; (first | omega | ((try simp only [wnt, cond_true, cond_false, decide_eq_true_eq, Bool.not_eq_true', decide_eq_false_iff_not, Bool.and_eq_true, Bool.or_eq_true] at *); omega)); (first | omega | ((try simp only [wnt, cond_true, cond_false, decide_eq_true_eq, Bool.not_eq_true', decide_eq_false_iff_not, Bool.and_eq_true, Bool.or_eq_true] at *); omega))) | ((with_reducible apply x_build tb_ok); rfl; (first | ((simp only [Value.cells]) <;> rfl) | rfl); rfl; rfl; rfl; (first | ((simp only [putAt, Value.cells, List.toList_toArray, List.setIfInBounds_toArray, List.set_cons_zero, List.set_cons_succ, List.drop_succ_cons, List.drop_zero, List.take_succ_cons, List.take_zero, List.cons_append, List.nil_append, List.append_nil]) <;> rfl) | rfl)) | ((with_reducible apply x_makeFunc); rfl; rfl) | ((with_reducible apply x_addW); rfl; rfl) | ((with_reducible apply x_subW); rfl; rfl)))))); exact kLeft.get)) : G := h ⟨k⟩
end Go.Proofs.YtdaenalnmdmflaaGreat
namespace Go.Proofs.YtdaenalnmdmflaaGreat
open Go.RowKit
set_option linter.unusedVariables false
set_option linter.unusedSimpArgs false
set_option maxRecDepth 20000
attribute [local irreducible] Hy St Ops DH DHF DE1 DE2 DE3 DS DCh
abbrev atS (a : AtD × Int) : List Value := [.bool a.1.r, .bool a.1.w, .bool a.1.x, .bool a.1.af, .bool a.1.ng, .int .i64 a.2]
def bothA (a b : AtD) : AtD := ⟨a.r && b.r, a.w && b.w, a.x && b.x, a.af && b.af, a.ng || b.ng⟩
theorem acc_ex {e sz : Nat} (xs : List (List Value)) (hx : ∀ c ∈ xs, c.length = sz ∧ c.all (·.oneCell') = true) (hl : xs.length < 65536) : ∃ v h, Acc e sz v h xs := by
  by_cases h0 : xs = []
  · subst h0; exact ⟨_, _, Acc.nil e sz⟩
  · have hfl : ∀ ys : List (List Value), (∀ c ∈ ys, c.length = sz ∧ c.all (·.oneCell') = true) → ys.flatten.length = ys.length * sz := by
      intro ys
      induction ys with
      | nil => intro _; simp
      | cons y r ih => intro h; rw [List.flatten_cons, List.length_append, ih (fun c hc => h c (List.mem_cons_of_mem _ hc)), (h y (List.mem_cons_self ..)).1, List.length_cons, Nat.succ_mul, Nat.add_comm]
    refine ⟨.slice (some ⟨0, 0, none⟩) xs.length xs.length, [⟨0, xs.flatten.toArray, e⟩], hx, .inr ⟨h0, 0, xs.length, _, rfl, rfl, ⟨hfl xs hx, Nat.le_refl _, by unfold maxLen; omega, by simp only [List.size_toArray]; rw [hfl xs hx], ?_⟩⟩⟩
    rw [List.take_of_length_le (by simp only; rw [hfl xs hx]; exact Nat.le_refl _)]
theorem iv_all1 (c : IvD) : (ivV c).length = 4 ∧ (ivV c).all (·.oneCell') = true := ⟨rfl, rfl⟩
theorem en_all1 (c : EnD) : (enV c).length = 14 ∧ (enV c).all (·.oneCell') = true := ⟨rfl, rfl⟩
theorem fill_ex (es : List EnD) (ds : List IvD) (h1 : es.length ≤ 8) (h2 : ds.length ≤ 8) : ∃ r hn v1 h1 v2 h2, r = Value.agg #[v1, v2] ∧ Acc 88 14 v1 h1 (es.map enV) ∧ Acc 94 4 v2 h2 (ds.map ivV) ∧ HpLe (h1 ++ h2) hn := by
  obtain ⟨v, h, hA⟩ := acc_ex (e := 88) (es.map enV) (fun c hc => by obtain ⟨x, _, rfl⟩ := List.mem_map.1 hc; exact en_all1 x) (by rw [List.length_map]; omega)
  obtain ⟨v2, h2, hA2⟩ := acc_ex (e := 94) (ds.map ivV) (fun c hc => by obtain ⟨x, _, rfl⟩ := List.mem_map.1 hc; exact iv_all1 x) (by rw [List.length_map]; omega)
  exact ⟨_, _, v, h, v2, h2, rfl, hA, hA2, HpLe.refl _⟩
theorem fillL_len (es : List EnD) (e : EnD) (h : es.length ≤ 8) : (fillL es e).length ≤ 8 := by
  unfold fillL
  cases hc : (!(es.any fun t => decide (t = e)) && decide (es.length < 8)) with
  | false => exact h
  | true => rw [Bool.and_eq_true, decide_eq_true_eq] at hc; simp; omega
theorem finTA {fn : Func} {R : Value → Hp → Prop} {l : Fm} {hp : Hp} {s0 a t b : Nat} {cs : Array Value} {tb : TypeId} {v : Value} (h : R (.tuple #[v, .agg cs]) hp) (hr : fn.results = #[.tmp s0, .cell a t] := by rfl) (h0 : look l s0 = some v := by rfl) (hv : look l a = some (.pointer (some ⟨b, 0, none⟩)) := by rfl) (hag : mem Tb.ag t = true := by rfl) (hm : (⟨b, cs, tb⟩ : Blk) ∈ hp := by (first | (with_reducible apply mh) | (focus ((repeat (first | (with_reducible apply mh) | (with_reducible apply mt) | (with_reducible apply List.mem_append_right))); done)))) (hz : lk Tb.sz t = some cs.size := by rfl) : Fin Tryz.prog fn R .ret l hp :=
  ⟨.inl rfl, [v, .agg cs], by rw [hr]; exact ⟨h0, ⟨⟨b, cs, tb⟩, hm, hv, .inr ⟨tb_ok.gag hag, tb_ok.gsz hz, rfl⟩⟩, trivial⟩, h⟩
theorem Sees.into {w wc : World} {mu : List Nat} {hi rest : Hp} {v : Value} {sz : Nat} {xs : List (List Value)} (h : Sees w mu v sz xs) (hG : Good w mu (hi ++ rest) wc) : Sees wc (hi.map (·.b)) v sz xs :=
  h.next hG fun b hb => by obtain ⟨x, hx, rfl⟩ := List.mem_map.1 hb; exact ⟨x, List.mem_append_left _ hx, rfl⟩
instance : Inhabited AtD := ⟨noAt⟩
theorem rBoth_e (a b : AtD) (sa sb : Int) {w : World} {v : Value} (h : SlAt w v 6 ([(a, sa), (b, sb)].map atS)) : Fn Tryz.prog 45 [v].toArray w [] (fun u _ => u = .agg (atV (bothA a b)).toArray) := by
  obtain ⟨q, cap, rfl, hne, hle⟩ := h.opened
  obtain ⟨b0, o0, rfl⟩ := hne (by simp)
  rw [show ([(a, sa), (b, sb)] : List (AtD × Int)).length = 2 from rfl] at h ⊢
  have r0 := h.row (k := 0) (by decide : 0 < 2)
  have r1 := h.row (k := 1) (by decide : 1 < 2)
  refine enter Tryz.func45 ?_
  refine run ?_
  intro R X
  refine loopS (σ := Nat × AtD) (fun z => [(4, .int .i64 (z.1 : Int))]) (fun z => [⟨R, #[.bool false, .bool false, .bool false, .bool false, .bool false, .int .i64 0], 60⟩, ⟨X, #[.bool z.2.r, .bool z.2.w, .bool z.2.x, .bool z.2.af, .bool z.2.ng, .int .i64 0], 60⟩]) (fun z => z.1 = 0 ∧ z.2 = ⟨true, true, true, true, false⟩ ∨ z.1 = 1 ∧ z.2 = a ∨ z.1 = 2 ∧ z.2 = bothA a b) (fun z => 2 - z.1) (0, ⟨true, true, true, true, false⟩) (.inl ⟨rfl, rfl⟩) ?_
  rintro ⟨k, x⟩ m hm hk
  dsimp only at hm hk ⊢
  rcases hk with ⟨e0, rfl⟩ | ⟨e0, rfl⟩ | ⟨e0, rfl⟩
  · have hlt : k < 2 := by omega
    have hr : w.rangeAt b0 (o0 + k * 6) (atS (a, sa)) := by rw [e0]; exact r0
    refine run ?_
    refine st_cond _ rfl (fun hc => ?_) (fun hc => absurd hc (by simp; omega))
    refine runC ?_
    intro A
    refine runC ?_
    refine drawW 31 [⟨R, #[.bool false, .bool false, .bool false, .bool false, .bool false, .int .i64 0], 60⟩, ⟨A, #[.bool a.r, .bool a.w, .bool a.x, .bool a.af, .bool a.ng, .int .i64 sa], 60⟩] ?_
    refine runWG ?_
    refine run ?_
    exact nextS (k + 1, ⟨true && a.r, true && a.w, true && a.x, true && a.af, false || a.ng⟩) (.inr (.inl ⟨by dsimp only; omega, by simp⟩)) (hm := by dsimp only; omega) (h2 := by (refine hpLe_cnt fun a => ?_; simp only [cntB_app, cntB_cons, cntB_nil]; omega))
  · have hlt : k < 2 := by omega
    have hr : w.rangeAt b0 (o0 + k * 6) (atS (b, sb)) := by rw [e0]; exact r1
    refine run ?_
    refine st_cond _ rfl (fun hc => ?_) (fun hc => absurd hc (by simp; omega))
    refine runC ?_
    intro A
    refine runC ?_
    refine drawW 31 [⟨R, #[.bool false, .bool false, .bool false, .bool false, .bool false, .int .i64 0], 60⟩, ⟨A, #[.bool b.r, .bool b.w, .bool b.x, .bool b.af, .bool b.ng, .int .i64 sb], 60⟩] ?_
    refine runWG ?_
    refine run ?_
    exact nextS (k + 1, ⟨x.r && b.r, x.w && b.w, x.x && b.x, x.af && b.af, x.ng || b.ng⟩) (.inr (.inr ⟨by dsimp only; omega, rfl⟩)) (hm := by dsimp only; omega) (h2 := by (refine hpLe_cnt fun a => ?_; simp only [cntB_app, cntB_cons, cntB_nil]; omega))
  · refine run ?_
    refine st_cond _ rfl (fun hc => absurd hc (by simp; omega)) (fun hc => ?_)
    refine run ?_
    exact finA (cs := #[.bool (bothA a b).r, .bool (bothA a b).w, .bool (bothA a b).x, .bool (bothA a b).af, .bool (bothA a b).ng, .int .i64 0]) rfl
theorem rStage_e (c : AcC) (hk : AcOk c) {w : World} {Wb : Nat} {mv ev dv rv : Value} {he hd hr : Hp} (s : AcS) (ds : List IvD) (level : Nat) (hlv : level < 4) (fr : Int) (hfr : fr = -1 ∧ level = 0 ∨ hasF c.ws.length fr = true) (hE : EsOk c.ws.length s.es ds) (hrl : s.rd.length < 1000)
    (hm : Sees w (Wb :: (he ++ hd ++ hr).map (·.b)) mv 1 (c.ws.map uV)) (h1 : Own 88 14 ev he (s.es.map enV)) (h2 : Own 94 4 dv hd (ds.map ivV)) (h3 : Own 3 1 rv hr (s.rd.map inV)) (hN : HereN (⟨Wb, wkC c mv ev dv rv, 83⟩ :: (he ++ hd ++ hr)) w) :
    Fn Tryz.prog 40 [.pointer (some ⟨Wb, 0, none⟩), .int .i64 (level : Int), .int .i64 fr, .int .i64 (c.page : Int), .int .i64 c.acc].toArray w (Wb :: (he ++ hd ++ hr).map (·.b)) (fun u hn => ∃ X : StR, X = (bif decide (fr < 0) then rootA c s else stgA c (4 - level) level fr s) ∧ ∃ ev' dv' rv' he' hd' hr', u = .tuple #[.int .i64 X.n, ftV X.f] ∧ Own 88 14 ev' he' (X.s.es.map enV) ∧ Own 94 4 dv' hd' (ds.map ivV) ∧ Own 3 1 rv' hr' (X.s.rd.map inV) ∧ HpLe (⟨Wb, wkC c mv ev' dv' rv', 83⟩ :: (he' ++ hd' ++ hr')) hn) := by
  have hm' := hm
  obtain ⟨qm, cm, rfl, _, _⟩ := hm.at_.opened
  obtain ⟨qe, ce, ee⟩ := h1.opened
  obtain ⟨qd, cd, ed⟩ := h2.opened
  obtain ⟨qr, cr, er⟩ := h3.opened
  rw [List.length_map] at ee ed er
  subst ee ed er
  simp only [wkC] at hN ⊢
  have hmi := memOk_iff hk.mem
  have hem := hE.may
  refine enterM _ hN Tryz.func40 ?_
  refine run ?_
  intro R
  refine loopS (σ := Nat × Int × Int × AcS × Value × Value × Value × Hp × Hp × Hp) (fun z => [(1, .int .i64 (z.1 : Int)), (2, .int .i64 z.2.1), (12, .int .i64 z.2.2.1)]) (fun z => ⟨R, #[.int .i64 0, .int .i64 0, .int .i64 0, .bool false, .int .i64 0], 44⟩ :: ⟨Wb, #[.slice qm c.ws.length cm, z.2.2.2.2.1, z.2.2.2.2.2.1, .bool c.one.on, .int .i64 c.one.frame, .int .i64 c.one.tag, .bool c.two.on, .int .i64 c.two.frame, .int .i64 c.two.tag, .int .i64 c.pk.cpu, .bool c.pk.fill, .bool c.pk.mids, .bool c.pk.walk, .int .i64 c.pk.drop, .bool c.pk.use, z.2.2.2.2.2.2.1], 83⟩ :: (z.2.2.2.2.2.2.2.1 ++ z.2.2.2.2.2.2.2.2.1 ++ z.2.2.2.2.2.2.2.2.2)) (fun z => z.1 < 4 ∧ (z.2.1 = -1 ∧ 0 ≤ z.2.2.1 ∧ z.2.2.1 ≤ 4095 ∨ hasF c.ws.length z.2.1 = true) ∧ EsOk c.ws.length z.2.2.2.1.es ds ∧ z.2.2.2.1.rd.length + 5 * (4 - z.1) ≤ 1100 ∧ (bif decide (z.2.1 < 0) then stgT c (4 - z.1) z.1 z.2.2.1.toNat z.2.2.2.1 else stgA c (4 - z.1) z.1 z.2.1 z.2.2.2.1) = (bif decide (fr < 0) then rootA c s else stgA c (4 - level) level fr s) ∧ Own 88 14 z.2.2.2.2.1 z.2.2.2.2.2.2.2.1 (z.2.2.2.1.es.map enV) ∧ Own 94 4 z.2.2.2.2.2.1 z.2.2.2.2.2.2.2.2.1 (ds.map ivV) ∧ Own 3 1 z.2.2.2.2.2.2.1 z.2.2.2.2.2.2.2.2.2 (z.2.2.2.1.rd.map inV)) (fun z => 4 - z.1) (level, fr, c.one.frame, s, _, _, _, he, hd, hr) ⟨hlv, ?_, hE, by dsimp only; omega, ?_, h1, h2, h3⟩ ?_
  · dsimp only
    rcases hfr with ⟨e, e2⟩ | h
    · exact .inl ⟨e, (RtD.may_iff hk.one).1⟩
    · exact .inr h
  · dsimp only
    cases hf0 : decide (fr < 0) with
    | false => rfl
    | true =>
      rcases hfr with ⟨e, rfl⟩ | h
      · rfl
      · have := hasF_iff h
        simp at hf0; omega
  rintro ⟨lv, f0, md, S, ev, dv, rv, he, hd, hr⟩ m hm ⟨hl, hf0, hES, hrd, hwk, h1, h2, h3⟩
  dsimp only at hm hl hf0 hES hrd hwk h1 h2 h3 ⊢
  generalize (bif decide (fr < 0) then rootA c s else stgA c (4 - level) level fr s) = X at hwk ⊢
  refine run ?_
  refine st_cond _ rfl (fun hc => ?_) (fun hc => absurd hc (by simp; omega))
  refine run ?_
  refine st_cutD (σ := Int × AcS × Value × Value × Value × Hp × Hp × Hp) (fun z => [(2, .int .i64 z.1)]) (fun z => ⟨R, #[.int .i64 0, .int .i64 0, .int .i64 0, .bool false, .int .i64 0], 44⟩ :: ⟨Wb, #[.slice qm c.ws.length cm, z.2.2.1, z.2.2.2.1, .bool c.one.on, .int .i64 c.one.frame, .int .i64 c.one.tag, .bool c.two.on, .int .i64 c.two.frame, .int .i64 c.two.tag, .int .i64 c.pk.cpu, .bool c.pk.fill, .bool c.pk.mids, .bool c.pk.walk, .int .i64 c.pk.drop, .bool c.pk.use, z.2.2.2.2.1], 83⟩ :: (z.2.2.2.2.2.1 ++ z.2.2.2.2.2.2.1 ++ z.2.2.2.2.2.2.2)) (fun z => hasF c.ws.length z.1 = true ∧ EsOk c.ws.length z.2.1.es ds ∧ z.2.1.rd.length + 5 * (4 - lv) ≤ 1104 ∧ stgA c (4 - lv) lv z.1 z.2.1 = X ∧ Own 88 14 z.2.2.1 z.2.2.2.2.2.1 (z.2.1.es.map enV) ∧ Own 94 4 z.2.2.2.1 z.2.2.2.2.2.2.1 (ds.map ivV) ∧ Own 3 1 z.2.2.2.2.1 z.2.2.2.2.2.2.2 (z.2.1.rd.map inV)) ?_ ?_
  · refine st_cond _ rfl (fun hc1 => ?_) (fun hc1 => ?_)
    · obtain ⟨rfl, hmd0, hmd1⟩ : f0 = -1 ∧ 0 ≤ md ∧ md ≤ 4095 := by
        rcases hf0 with h | h
        · exact h
        · have := hasF_iff h; simp at hc1; omega
      obtain ⟨M, rfl⟩ : ∃ M : Nat, md = (M : Int) := ⟨md.toNat, by omega⟩
      simp only [show decide ((-1 : Int) < 0) = true from rfl, cond_true, Int.toNat_natCast] at hwk
      refine run ?_
      refine callM (⟨Wb, #[.slice qm c.ws.length cm, ev, dv, .bool c.one.on, .int .i64 c.one.frame, .int .i64 c.one.tag, .bool c.two.on, .int .i64 c.two.frame, .int .i64 c.two.tag, .int .i64 c.pk.cpu, .bool c.pk.fill, .bool c.pk.mids, .bool c.pk.walk, .int .i64 c.pk.drop, .bool c.pk.use, rv], 83⟩ :: (he ++ hd ++ hr)) [⟨R, #[.int .i64 0, .int .i64 0, .int .i64 0, .bool false, .int .i64 0], 44⟩] (fun wc hG => rMid14_e c hk.w64 hk.mem hk.on (RtD.may_iff hk.two).1.1 S ds M (by omega) 0 hES (by omega) (hm'.into hG) h1 h2 h3 hG.hereN) ?_ (by (refine perm_cnt fun a => ?_; simp only [cntB_app, cntB_cons, cntB_nil]; omega))
      rintro u1 hn1 ⟨ev1, dv1, rv1, he1, hd1, hr1, rfl, h11, h21, h31, hle1⟩
      simp only [wkC] at hle1
      obtain ⟨hMs, hMf⟩ := midA_ok hk hES (mid := M) (by omega) 0
      have hMr := hMs.rd
      rw [stgT, tblA] at hwk
      generalize midA c S M 0 = Y at h11 h31 hMs hMf hMr hwk ⊢
      refine ops_le (⟨R, #[.int .i64 0, .int .i64 0, .int .i64 0, .bool false, .int .i64 0], 44⟩ :: ⟨Wb, #[.slice qm c.ws.length cm, ev1, dv1, .bool c.one.on, .int .i64 c.one.frame, .int .i64 c.one.tag, .bool c.two.on, .int .i64 c.two.frame, .int .i64 c.two.tag, .int .i64 c.pk.cpu, .bool c.pk.fill, .bool c.pk.mids, .bool c.pk.walk, .int .i64 c.pk.drop, .bool c.pk.use, rv1], 83⟩ :: (he1 ++ hd1 ++ hr1)) (by (refine hpLe_cnt fun a => ?_; have := HpLe.cnt hle1 a; simp only [cntB_app, cntB_cons, cntB_nil] at *; omega)) ?_
      refine run ?_
      intro F1 F2
      refine st_cond _ rfl (fun hc2 => ?_) (fun hc2 => ?_)
      · refine run ?_
        rw [hc2, cond_true] at hwk
        refine dropS 10 ?_
        refine drawC 3 2 [0, 1] [2] (Blk.mk F2 #[.int .i64 Y.f.kind, .int .i64 Y.f.stage, .int .i64 Y.f.level, .bool true, .int .i64 Y.f.page] 44 :: Blk.mk F1 #[.bool Y.a.r, .bool Y.a.w, .bool Y.a.x, .bool Y.a.af, .bool Y.a.ng, .int .i64 0] 60 :: ⟨Wb, #[.slice qm c.ws.length cm, ev1, dv1, .bool c.one.on, .int .i64 c.one.frame, .int .i64 c.one.tag, .bool c.two.on, .int .i64 c.two.frame, .int .i64 c.two.tag, .int .i64 c.pk.cpu, .bool c.pk.fill, .bool c.pk.mids, .bool c.pk.walk, .int .i64 c.pk.drop, .bool c.pk.use, rv1], 83⟩ :: (he1 ++ hd1 ++ hr1)) ?_
        refine runZ ?_
        refine cStore (b := R) (tb := 44) (cs := #[.int .i64 0, .int .i64 0, .int .i64 0, .bool false, .int .i64 0]) (cs' := #[.int .i64 Y.f.kind, .int .i64 Y.f.stage, .int .i64 Y.f.level, .bool true, .int .i64 Y.f.page]) (hp' := Blk.mk F2 #[.int .i64 Y.f.kind, .int .i64 Y.f.stage, .int .i64 Y.f.level, .bool true, .int .i64 Y.f.page] 44 :: Blk.mk F1 #[.bool Y.a.r, .bool Y.a.w, .bool Y.a.x, .bool Y.a.af, .bool Y.a.ng, .int .i64 0] 60 :: ⟨Wb, #[.slice qm c.ws.length cm, ev1, dv1, .bool c.one.on, .int .i64 c.one.frame, .int .i64 c.one.tag, .bool c.two.on, .int .i64 c.two.frame, .int .i64 c.two.tag, .int .i64 c.pk.cpu, .bool c.pk.fill, .bool c.pk.mids, .bool c.pk.walk, .int .i64 c.pk.drop, .bool c.pk.use, rv1], 83⟩ :: (he1 ++ hd1 ++ hr1)) ?_ (by (refine perm_cnt fun a => ?_; simp only [cntB_app, cntB_cons, cntB_nil]; omega))
        refine dc_nil ?_
        refine opsC ?_
        refine run ?_
        rw [show (!decide (({ Y.f with walk := true } : FtD).kind = 0)) = true from hc2, cond_true] at hwk
        exact finTA (cs := #[.int .i64 Y.f.kind, .int .i64 Y.f.stage, .int .i64 Y.f.level, .bool true, .int .i64 Y.f.page]) ⟨_, rfl, ev1, dv1, rv1, he1, hd1, hr1, by rw [← hwk], by rw [← hwk]; exact h11, h21, by rw [← hwk]; exact h31, by (refine hpLe_cnt fun a => ?_; simp only [cntB_app, cntB_cons, cntB_nil]; omega)⟩
      · rw [hc2, cond_false] at hwk
        obtain ⟨hMf1, hMf2, hMf3⟩ := hMf (by simpa using hc2)
        rw [show decide (0 < lv) = decide ((0 : Int) < (lv : Int)) by rw [Bool.eq_iff_iff]; simp] at hwk
        refine runG ?_
        refine st_cond _ rfl (fun hc3 => ?_) (fun hc3 => ?_)
        · rw [hc3, cond_true] at hwk
          refine run ?_
          have hlv0 : 0 < lv := by rw [Bool.and_eq_true] at hc3; simpa using hc3.1
          have hcut : ∀ wc, Fn Tryz.prog 72 [.int .i64 ((lv : Int) - 1), .int .i64 (c.page : Int)].toArray wc [] (fun u _ => u = .int .i64 (cutN (lv - 1) c.page : Int)) := fun wc => by
            rw [show (lv : Int) - 1 = ((lv - 1 : Nat) : Int) by omega]
            exact cut_e (lv - 1) (by omega) c.page hk.page wc
          have hfl := fun {wc : World} (ha : SlAt wc ev1 14 (Y.s.es.map enV)) (hb : SlAt wc dv1 4 (ds.map ivV)) => fill9_e Y.s.es ds (entW c lv Y.n) _ _ ha hb (by have := hMs.es.may; omega) (by omega)
          refine drawED 23 [0, 1, 2, 3, 4, 5, 6, 7, 8, 9, 10, 11, 12, 13, 14, 15, 16, 17, 18, 19, 20, 21] [22] [] [23, 24] [25] ?_
          refine runS ?_
          refine sCallE (fun wc hx hG => hcut wc) ?_
          refine runS ?_
          refine eCall (fun wc hG => hfl (h11.lie (fun b hb => hG.here b (by simp [hb])) (by have := hMs.es.may; rw [List.length_map]; omega)) (h21.lie (fun b hb => hG.here b (by simp [hb])) (by rw [List.length_map]; omega))) (fill_ex _ ds (fillL_len _ _ (by have := hMs.es.may; omega)) (by omega)) ?_
          refine eNil ?_
          rintro u5 hn5 ⟨v5, h5, v6, h6, rfl, hA5, hA6, hle5⟩
          obtain ⟨q5, c5, e5⟩ := hA5.own.opened
          rw [List.length_map] at e5
          subst e5
          obtain ⟨q6, c6, e6⟩ := hA6.own.opened
          rw [List.length_map] at e6
          subst e6
          refine dNil ?_
          refine dNilCheck ?_
          refine dField ?_
          refine dNil ?_
          simp only [DN, List.cons_append, List.nil_append, List.append_nil]
          refine cStore (b := Wb) (tb := 83) (cs := #[.slice qm c.ws.length cm, ev1, dv1, .bool c.one.on, .int .i64 c.one.frame, .int .i64 c.one.tag, .bool c.two.on, .int .i64 c.two.frame, .int .i64 c.two.tag, .int .i64 c.pk.cpu, .bool c.pk.fill, .bool c.pk.mids, .bool c.pk.walk, .int .i64 c.pk.drop, .bool c.pk.use, rv1]) (cs' := #[.slice qm c.ws.length cm, .slice q5 (fillL Y.s.es (entW c lv Y.n)).length c5, .slice q6 ds.length c6, .bool c.one.on, .int .i64 c.one.frame, .int .i64 c.one.tag, .bool c.two.on, .int .i64 c.two.frame, .int .i64 c.two.tag, .int .i64 c.pk.cpu, .bool c.pk.fill, .bool c.pk.mids, .bool c.pk.walk, .int .i64 c.pk.drop, .bool c.pk.use, rv1]) (hp' := hn5 ++ (⟨F2, #[.int .i64 Y.f.kind, .int .i64 Y.f.stage, .int .i64 Y.f.level, .bool Y.f.walk, .int .i64 Y.f.page], 44⟩ :: Blk.mk F1 #[.bool Y.a.r, .bool Y.a.w, .bool Y.a.x, .bool Y.a.af, .bool Y.a.ng, .int .i64 0] 60 :: ⟨R, #[.int .i64 0, .int .i64 0, .int .i64 0, .bool false, .int .i64 0], 44⟩ :: (he1 ++ hd1 ++ hr1))) ?_ (by (refine perm_cnt fun a => ?_; simp only [cntB_app, cntB_cons, cntB_nil]; omega))
          refine dc_nil ?_
          refine opsC ?_
          refine run ?_
          exact meetS (Y.n, ⟨fillL Y.s.es (entW c lv Y.n), Y.s.rd⟩, .slice q5 (fillL Y.s.es (entW c lv Y.n)).length c5, .slice q6 ds.length c6, rv1, h5, h6, hr1) ⟨hMf1, fill_ok hMs.es (entW_may hk hlv0 (by omega) hMf1) hMf1, by dsimp only; omega, hwk, hA5.own, hA6.own, h31⟩ (h2 := by (refine hpLe_cnt fun a => ?_; have := HpLe.cnt hle5 a; simp only [cntB_app, cntB_cons, cntB_nil] at *; omega))
        · refine run ?_
          rw [hc3, cond_false] at hwk
          exact meetS (Y.n, Y.s, ev1, dv1, rv1, he1, hd1, hr1) ⟨hMf1, hMs.es, by dsimp only; omega, hwk, h11, h21, h31⟩ (h2 := by (refine hpLe_cnt fun a => ?_; simp only [cntB_app, cntB_cons, cntB_nil]; omega))
    · refine run ?_
      have hff : hasF c.ws.length f0 = true := by
        rcases hf0 with ⟨e, _⟩ | h
        · rw [e] at hc1; simp at hc1
        · exact h
      exact meetS (f0, S, ev, dv, rv, he, hd, hr) ⟨hff, hES, by dsimp only; omega, by rw [← hwk, hc1]; rfl, h1, h2, h3⟩
  rintro ⟨f1, S1, ev1, dv1, rv1, he1, hd1, hr1⟩ ⟨hff, hES1, hrd1, hwk1, h1', h2', h3'⟩
  dsimp only at hff hES1 hrd1 hwk1 h1' h2' h3' ⊢
  clear hwk h1 h2 h3 hES hrd hf0
  have hrl1 := hrd1
  refine run ?_
  intro T
  refine appendW (c := inV f1) (⟨T, #[.int .i64 f1], 3⟩ :: ⟨R, #[.int .i64 0, .int .i64 0, .int .i64 0, .bool false, .int .i64 0], 44⟩ :: ⟨Wb, #[.slice qm c.ws.length cm, ev1, dv1, .bool c.one.on, .int .i64 c.one.frame, .int .i64 c.one.tag, .bool c.two.on, .int .i64 c.two.frame, .int .i64 c.two.tag, .int .i64 c.pk.cpu, .bool c.pk.fill, .bool c.pk.mids, .bool c.pk.walk, .int .i64 c.pk.drop, .bool c.pk.use, rv1], 83⟩ :: (he1 ++ hd1)) h3' (fun v' ha' hA' => ?_) (by simp; omega) (news_own (m := 1) mh rfl) (hperm := by (refine perm_cnt fun a => ?_; simp only [cntB_app, cntB_cons, cntB_nil]; omega))
  rw [show S1.rd.map inV ++ [inV f1] = (S1.rd ++ [f1]).map inV by simp] at hA'
  obtain ⟨q4, c4, e4⟩ := hA'.opened
  rw [List.length_map] at e4
  subst e4
  refine ops_le (⟨R, #[.int .i64 0, .int .i64 0, .int .i64 0, .bool false, .int .i64 0], 44⟩ :: ⟨Wb, #[.slice qm c.ws.length cm, ev1, dv1, .bool c.one.on, .int .i64 c.one.frame, .int .i64 c.one.tag, .bool c.two.on, .int .i64 c.two.frame, .int .i64 c.two.tag, .int .i64 c.pk.cpu, .bool c.pk.fill, .bool c.pk.mids, .bool c.pk.walk, .int .i64 c.pk.drop, .bool c.pk.use, rv1], 83⟩ :: (he1 ++ hd1 ++ ha')) (by (refine hpLe_cnt fun a => ?_; simp only [cntB_app, cntB_cons, cntB_nil]; omega)) ?_
  refine run ?_
  refine callE (fun wc hG => rTable_e c.ws hk.w64 (hm'.good hG) 1 (.inl rfl) lv hl f1 hff c.page hk.page (by omega)) ?_
  rw [show ofL 1 lv (c.ws.getD (atN f1 lv c.page) 0) = dSt c.ws 1 (atN f1 lv c.page) lv from rfl]
  rw [show 4 - lv = (3 - lv) + 1 by omega, stgA] at hwk1
  have hmay := dSt_may c.ws 1 (atN f1 lv c.page) lv
  generalize dSt c.ws 1 (atN f1 lv c.page) lv = d at hwk1 hmay ⊢
  obtain ⟨hkk, hk0, hk1, hk2⟩ := may_kinds hmay
  refine run ?_
  intro D
  refine run ?_
  refine st_cond _ rfl (fun hc2 => ?_) (fun hc2 => ?_)
  · have hdk1 : d.kind = 1 := by simpa using hc2
    obtain ⟨k1, k2, k3, k4⟩ := hk1 hdk1
    rw [hc2, cond_true] at hwk1
    refine run ?_
    refine nextS (lv + 1, -1, d.frame, ⟨S1.es, S1.rd ++ [f1]⟩, ev1, dv1, .slice q4 (S1.rd ++ [f1]).length c4, he1, hd1, ha') ⟨by dsimp only; omega, .inl ⟨rfl, k2, k3⟩, hES1, by dsimp only; simp only [List.length_append, List.length_singleton]; omega, ?_, h1', h2', hA'⟩ (hm := by dsimp only; omega) (h2 := by (refine hpLe_cnt fun a => ?_; simp only [cntB_app, cntB_cons, cntB_nil]; omega))
    rw [← hwk1, show 4 - (lv + 1) = 3 - lv by omega]
    rfl
  rw [hc2, cond_false] at hwk1
  refine run ?_
  refine st_cond _ rfl (fun hc3 => ?_) (fun hc3 => ?_)
  · rw [hc3, cond_true] at hwk1
    refine run ?_
    exact finTA (cs := #[.int .i64 2, .int .i64 1, .int .i64 (lv : Int), .bool false, .int .i64 (c.page : Int)]) ⟨_, rfl, ev1, dv1, .slice q4 (S1.rd ++ [f1]).length c4, he1, hd1, ha', by rw [← hwk1], by rw [← hwk1]; exact h1', h2', by rw [← hwk1]; exact hA', by (refine hpLe_cnt fun a => ?_; simp only [cntB_app, cntB_cons, cntB_nil]; omega)⟩
  rw [hc3, cond_false] at hwk1
  have hdk2 : d.kind = 2 := by simp at hc2 hc3; omega
  obtain ⟨k1, k2, k3, k4, k5⟩ := hk2 hdk2
  obtain ⟨hlf, hlf2⟩ := leaf_mid hmay hdk2 hl c.page
  have hcv := dbits_lt hl
  have hmod := Nat.mod_lt c.page (show 0 < coversN lv by omega)
  rw [leafA] at hwk1
  refine run ?_
  refine callE (fun wc hG => rFlag_e d.r d.w d.x d.af d.ng d.soft c.acc 1 lv c.page wc) ?_
  generalize flagL d.r d.w d.x d.af c.acc 1 lv c.page = G at hwk1 ⊢
  refine run ?_
  intro F
  refine st_cond _ rfl (fun hc4 => ?_) (fun hc4 => ?_)
  · rw [hc4, cond_true] at hwk1
    refine run ?_
    refine dropS 10 ?_
    refine drawC 3 2 [0, 1] [2] (⟨F, #[.int .i64 G.kind, .int .i64 G.stage, .int .i64 G.level, .bool G.walk, .int .i64 G.page], 44⟩ :: ⟨D, #[.int .i64 d.kind, .int .i64 d.frame, .bool d.r, .bool d.w, .bool d.x, .bool d.af, .bool d.ng, .int .i64 d.soft, .int .i64 d.note], 100⟩ :: ⟨Wb, #[.slice qm c.ws.length cm, ev1, dv1, .bool c.one.on, .int .i64 c.one.frame, .int .i64 c.one.tag, .bool c.two.on, .int .i64 c.two.frame, .int .i64 c.two.tag, .int .i64 c.pk.cpu, .bool c.pk.fill, .bool c.pk.mids, .bool c.pk.walk, .int .i64 c.pk.drop, .bool c.pk.use, .slice q4 (S1.rd ++ [f1]).length c4], 83⟩ :: (he1 ++ hd1 ++ ha')) ?_
    refine runZ ?_
    refine cStore (b := R) (tb := 44) (cs := #[.int .i64 0, .int .i64 0, .int .i64 0, .bool false, .int .i64 0]) (cs' := #[.int .i64 G.kind, .int .i64 G.stage, .int .i64 G.level, .bool G.walk, .int .i64 G.page]) (hp' := ⟨F, #[.int .i64 G.kind, .int .i64 G.stage, .int .i64 G.level, .bool G.walk, .int .i64 G.page], 44⟩ :: ⟨D, #[.int .i64 d.kind, .int .i64 d.frame, .bool d.r, .bool d.w, .bool d.x, .bool d.af, .bool d.ng, .int .i64 d.soft, .int .i64 d.note], 100⟩ :: ⟨Wb, #[.slice qm c.ws.length cm, ev1, dv1, .bool c.one.on, .int .i64 c.one.frame, .int .i64 c.one.tag, .bool c.two.on, .int .i64 c.two.frame, .int .i64 c.two.tag, .int .i64 c.pk.cpu, .bool c.pk.fill, .bool c.pk.mids, .bool c.pk.walk, .int .i64 c.pk.drop, .bool c.pk.use, .slice q4 (S1.rd ++ [f1]).length c4], 83⟩ :: (he1 ++ hd1 ++ ha')) ?_ (by (refine perm_cnt fun a => ?_; simp only [cntB_app, cntB_cons, cntB_nil]; omega))
    refine dc_nil ?_
    refine opsC ?_
    refine run ?_
    exact finTA (cs := #[.int .i64 G.kind, .int .i64 G.stage, .int .i64 G.level, .bool G.walk, .int .i64 G.page]) ⟨_, rfl, ev1, dv1, .slice q4 (S1.rd ++ [f1]).length c4, he1, hd1, ha', by rw [← hwk1], by rw [← hwk1]; exact h1', h2', by rw [← hwk1]; exact hA', by (refine hpLe_cnt fun a => ?_; simp only [cntB_app, cntB_cons, cntB_nil]; omega)⟩
  rw [hc4, cond_false] at hwk1
  refine run ?_
  refine dropS 12 ?_
  refine drawAll ?_
  refine runD ?_
  refine callD (fun wc hG => rCovers_e lv hl wc) ?_
  refine opD (x_remN rfl rfl c.page (coversN lv) rfl rfl (by omega)) ?_
  refine runD ?_
  refine run ?_
  rw [show d.frame + ((c.page % coversN lv : Nat) : Int) = ((leafM c lv d : Nat) : Int) by unfold leafM; omega]
  have hlm : leafM c lv d ≤ 4095 := hlf
  generalize leafM c lv d = M at hwk1 hlm ⊢
  refine callM (⟨Wb, #[.slice qm c.ws.length cm, ev1, dv1, .bool c.one.on, .int .i64 c.one.frame, .int .i64 c.one.tag, .bool c.two.on, .int .i64 c.two.frame, .int .i64 c.two.tag, .int .i64 c.pk.cpu, .bool c.pk.fill, .bool c.pk.mids, .bool c.pk.walk, .int .i64 c.pk.drop, .bool c.pk.use, .slice q4 (S1.rd ++ [f1]).length c4], 83⟩ :: (he1 ++ hd1 ++ ha')) [⟨F, #[.int .i64 G.kind, .int .i64 G.stage, .int .i64 G.level, .bool G.walk, .int .i64 G.page], 44⟩, ⟨D, #[.int .i64 d.kind, .int .i64 d.frame, .bool d.r, .bool d.w, .bool d.x, .bool d.af, .bool d.ng, .int .i64 d.soft, .int .i64 d.note], 100⟩, ⟨R, #[.int .i64 0, .int .i64 0, .int .i64 0, .bool false, .int .i64 0], 44⟩] (fun wc hG => rMid14_e c hk.w64 hk.mem hk.on (RtD.may_iff hk.two).1.1 ⟨S1.es, S1.rd ++ [f1]⟩ ds M (by omega) c.acc hES1 (by dsimp only; simp only [List.length_append, List.length_singleton]; omega) (hm'.into hG) h1' h2' hA' hG.hereN) ?_ (by (refine perm_cnt fun a => ?_; simp only [cntB_app, cntB_cons, cntB_nil]; omega))
  rintro u1 hn1 ⟨ev2, dv2, rv2, he2, hd2, hr2, rfl, h11, h21, h31, hle1⟩
  simp only [wkC] at hle1
  obtain ⟨hMs, hMf⟩ := midA_ok hk (s := ⟨S1.es, S1.rd ++ [f1]⟩) hES1 (mid := M) (by omega) c.acc
  generalize midA c ⟨S1.es, S1.rd ++ [f1]⟩ M c.acc = Y at h11 h31 hMs hMf hwk1 ⊢
  refine ops_le (⟨F, #[.int .i64 G.kind, .int .i64 G.stage, .int .i64 G.level, .bool G.walk, .int .i64 G.page], 44⟩ :: ⟨D, #[.int .i64 d.kind, .int .i64 d.frame, .bool d.r, .bool d.w, .bool d.x, .bool d.af, .bool d.ng, .int .i64 d.soft, .int .i64 d.note], 100⟩ :: ⟨R, #[.int .i64 0, .int .i64 0, .int .i64 0, .bool false, .int .i64 0], 44⟩ :: ⟨Wb, #[.slice qm c.ws.length cm, ev2, dv2, .bool c.one.on, .int .i64 c.one.frame, .int .i64 c.one.tag, .bool c.two.on, .int .i64 c.two.frame, .int .i64 c.two.tag, .int .i64 c.pk.cpu, .bool c.pk.fill, .bool c.pk.mids, .bool c.pk.walk, .int .i64 c.pk.drop, .bool c.pk.use, rv2], 83⟩ :: (he2 ++ hd2 ++ hr2)) (by (refine hpLe_cnt fun a => ?_; have := HpLe.cnt hle1 a; simp only [cntB_app, cntB_cons, cntB_nil] at *; omega)) ?_
  refine run ?_
  intro A
  refine st_cond _ rfl (fun hc5 => ?_) (fun hc5 => ?_)
  · rw [hc5, cond_true] at hwk1
    refine run ?_
    refine dropS 10 ?_
    refine drawC 3 2 [0, 1] [2] (⟨F, #[.int .i64 Y.f.kind, .int .i64 Y.f.stage, .int .i64 Y.f.level, .bool Y.f.walk, .int .i64 Y.f.page], 44⟩ :: ⟨D, #[.int .i64 d.kind, .int .i64 d.frame, .bool d.r, .bool d.w, .bool d.x, .bool d.af, .bool d.ng, .int .i64 d.soft, .int .i64 d.note], 100⟩ :: ⟨Wb, #[.slice qm c.ws.length cm, ev2, dv2, .bool c.one.on, .int .i64 c.one.frame, .int .i64 c.one.tag, .bool c.two.on, .int .i64 c.two.frame, .int .i64 c.two.tag, .int .i64 c.pk.cpu, .bool c.pk.fill, .bool c.pk.mids, .bool c.pk.walk, .int .i64 c.pk.drop, .bool c.pk.use, rv2], 83⟩ :: (he2 ++ hd2 ++ hr2)) ?_
    refine runZ ?_
    refine cStore (b := R) (tb := 44) (cs := #[.int .i64 0, .int .i64 0, .int .i64 0, .bool false, .int .i64 0]) (cs' := #[.int .i64 Y.f.kind, .int .i64 Y.f.stage, .int .i64 Y.f.level, .bool Y.f.walk, .int .i64 Y.f.page]) (hp' := ⟨F, #[.int .i64 Y.f.kind, .int .i64 Y.f.stage, .int .i64 Y.f.level, .bool Y.f.walk, .int .i64 Y.f.page], 44⟩ :: Blk.mk A #[.bool Y.a.r, .bool Y.a.w, .bool Y.a.x, .bool Y.a.af, .bool Y.a.ng, .int .i64 0] 60 :: ⟨D, #[.int .i64 d.kind, .int .i64 d.frame, .bool d.r, .bool d.w, .bool d.x, .bool d.af, .bool d.ng, .int .i64 d.soft, .int .i64 d.note], 100⟩ :: ⟨Wb, #[.slice qm c.ws.length cm, ev2, dv2, .bool c.one.on, .int .i64 c.one.frame, .int .i64 c.one.tag, .bool c.two.on, .int .i64 c.two.frame, .int .i64 c.two.tag, .int .i64 c.pk.cpu, .bool c.pk.fill, .bool c.pk.mids, .bool c.pk.walk, .int .i64 c.pk.drop, .bool c.pk.use, rv2], 83⟩ :: (he2 ++ hd2 ++ hr2)) ?_ (by (refine perm_cnt fun a => ?_; simp only [cntB_app, cntB_cons, cntB_nil]; omega))
    refine dc_nil ?_
    refine opsC ?_
    refine run ?_
    exact finTA (cs := #[.int .i64 Y.f.kind, .int .i64 Y.f.stage, .int .i64 Y.f.level, .bool Y.f.walk, .int .i64 Y.f.page]) ⟨_, rfl, ev2, dv2, rv2, he2, hd2, hr2, by rw [← hwk1], by rw [← hwk1]; exact h11, h21, by rw [← hwk1]; exact h31, by (refine hpLe_cnt fun a => ?_; simp only [cntB_app, cntB_cons, cntB_nil]; omega)⟩
  rw [hc5, cond_false] at hwk1
  obtain ⟨hMf1, hMf2, hMf3⟩ := hMf (by simpa using hc5)
  refine run ?_
  refine st_cond _ rfl (fun hc6 => ?_) (fun hc6 => ?_)
  · rw [hc6, cond_true] at hwk1
    refine run ?_
    intro Z
    refine callE (fun wc hG => rBoth_e ⟨d.r, d.w, d.x, d.af, d.ng⟩ Y.a d.soft 0 (lie_rows (xs := ([((⟨d.r, d.w, d.x, d.af, d.ng⟩ : AtD), d.soft), (Y.a, (0 : Int))].map atS)) (hG.here ⟨Z, #[.bool d.r, .bool d.w, .bool d.x, .bool d.af, .bool d.ng, .int .i64 d.soft, .bool Y.a.r, .bool Y.a.w, .bool Y.a.x, .bool Y.a.af, .bool Y.a.ng, .int .i64 0], 60⟩ mh) (by simp [atS]) (by simp))) ?_
    simp only [bothA]
    refine run ?_
    intro B
    have hfl := fun {wc : World} (ha : SlAt wc ev2 14 (Y.s.es.map enV)) (hb : SlAt wc dv2 4 (ds.map ivV)) => fill9_e Y.s.es ds (entH c Y.n M d Y.a) _ _ ha hb (by have := hMs.es.may; omega) (by omega)
    refine drawED 24 [0, 1, 2, 3, 4, 5, 6, 7, 8, 9, 10, 11, 12, 13, 14, 15, 16, 17, 18, 19, 20, 21, 22] [23] [] [24, 25] [26] ?_
    refine runS ?_
    refine eCall (fun wc hG => hfl (h11.lie (fun b hb => hG.here b (by simp [hb])) (by have := hMs.es.may; rw [List.length_map]; omega)) (h21.lie (fun b hb => hG.here b (by simp [hb])) (by rw [List.length_map]; omega))) (fill_ex _ ds (fillL_len _ _ (by have := hMs.es.may; omega)) (by omega)) ?_
    refine eNil ?_
    rintro u5 hn5 ⟨v5, h5, v6, h6, rfl, hA5, hA6, hle5⟩
    obtain ⟨q5, c5, e5⟩ := hA5.own.opened
    rw [List.length_map] at e5
    subst e5
    obtain ⟨q6, c6, e6⟩ := hA6.own.opened
    rw [List.length_map] at e6
    subst e6
    refine dNil ?_
    refine dNilCheck ?_
    refine dField ?_
    refine dNil ?_
    simp only [DN, List.cons_append, List.nil_append, List.append_nil]
    refine cStore (b := Wb) (tb := 83) (cs := #[.slice qm c.ws.length cm, ev2, dv2, .bool c.one.on, .int .i64 c.one.frame, .int .i64 c.one.tag, .bool c.two.on, .int .i64 c.two.frame, .int .i64 c.two.tag, .int .i64 c.pk.cpu, .bool c.pk.fill, .bool c.pk.mids, .bool c.pk.walk, .int .i64 c.pk.drop, .bool c.pk.use, rv2]) (cs' := #[.slice qm c.ws.length cm, .slice q5 (fillL Y.s.es (entH c Y.n M d Y.a)).length c5, .slice q6 ds.length c6, .bool c.one.on, .int .i64 c.one.frame, .int .i64 c.one.tag, .bool c.two.on, .int .i64 c.two.frame, .int .i64 c.two.tag, .int .i64 c.pk.cpu, .bool c.pk.fill, .bool c.pk.mids, .bool c.pk.walk, .int .i64 c.pk.drop, .bool c.pk.use, rv2]) (hp' := hn5 ++ (Blk.mk B #[.bool (d.r && Y.a.r), .bool (d.w && Y.a.w), .bool (d.x && Y.a.x), .bool (d.af && Y.a.af), .bool (d.ng || Y.a.ng), .int .i64 0] 60 :: Blk.mk Z #[.bool d.r, .bool d.w, .bool d.x, .bool d.af, .bool d.ng, .int .i64 d.soft, .bool Y.a.r, .bool Y.a.w, .bool Y.a.x, .bool Y.a.af, .bool Y.a.ng, .int .i64 0] 60 :: ⟨F, #[.int .i64 Y.f.kind, .int .i64 Y.f.stage, .int .i64 Y.f.level, .bool Y.f.walk, .int .i64 Y.f.page], 44⟩ :: Blk.mk A #[.bool Y.a.r, .bool Y.a.w, .bool Y.a.x, .bool Y.a.af, .bool Y.a.ng, .int .i64 0] 60 :: ⟨D, #[.int .i64 d.kind, .int .i64 d.frame, .bool d.r, .bool d.w, .bool d.x, .bool d.af, .bool d.ng, .int .i64 d.soft, .int .i64 d.note], 100⟩ :: ⟨R, #[.int .i64 0, .int .i64 0, .int .i64 0, .bool false, .int .i64 0], 44⟩ :: (he2 ++ hd2 ++ hr2))) ?_ (by (refine perm_cnt fun a => ?_; simp only [cntB_app, cntB_cons, cntB_nil]; omega))
    refine dc_nil ?_
    refine opsC ?_
    refine ops_le (⟨R, #[.int .i64 0, .int .i64 0, .int .i64 0, .bool false, .int .i64 0], 44⟩ :: ⟨Wb, #[.slice qm c.ws.length cm, .slice q5 (fillL Y.s.es (entH c Y.n M d Y.a)).length c5, .slice q6 ds.length c6, .bool c.one.on, .int .i64 c.one.frame, .int .i64 c.one.tag, .bool c.two.on, .int .i64 c.two.frame, .int .i64 c.two.tag, .int .i64 c.pk.cpu, .bool c.pk.fill, .bool c.pk.mids, .bool c.pk.walk, .int .i64 c.pk.drop, .bool c.pk.use, rv2], 83⟩ :: (h5 ++ h6 ++ hr2)) (by (refine hpLe_cnt fun a => ?_; have := HpLe.cnt hle5 a; simp only [cntB_app, cntB_cons, cntB_nil] at *; omega)) ?_
    refine run ?_
    exact finTA (cs := #[.int .i64 0, .int .i64 0, .int .i64 0, .bool false, .int .i64 0]) ⟨_, rfl, .slice q5 (fillL Y.s.es (entH c Y.n M d Y.a)).length c5, .slice q6 ds.length c6, rv2, h5, h6, hr2, by rw [← hwk1]; rfl, by rw [← hwk1]; exact hA5.own, hA6.own, by rw [← hwk1]; exact h31, by (refine hpLe_cnt fun a => ?_; simp only [cntB_app, cntB_cons, cntB_nil]; omega)⟩
  · rw [hc6, cond_false] at hwk1
    refine run ?_
    exact finTA (cs := #[.int .i64 0, .int .i64 0, .int .i64 0, .bool false, .int .i64 0]) ⟨_, rfl, ev2, dv2, rv2, he2, hd2, hr2, by rw [← hwk1]; rfl, by rw [← hwk1]; exact h11, h21, by rw [← hwk1]; exact h31, by (refine hpLe_cnt fun a => ?_; simp only [cntB_app, cntB_cons, cntB_nil]; omega)⟩
end Go.Proofs.YtdaenalnmdmflaaGreat
namespace Go.Proofs.YtdaenalnmdmflaaGreat
open Go.RowKit
set_option linter.unusedVariables false
set_option linter.unusedSimpArgs false
set_option maxRecDepth 20000
attribute [local irreducible] Hy St Ops DH DHF DE1 DE2 DE3 DS DCh DWF
theorem finTAAT {fn : Func} {R : Value → Hp → Prop} {l : Fm} {hp : Hp} {s0 s2 a t b a2 t2 b2 : Nat} {cs cs2 : Array Value} {tb tb2 : TypeId} {v v2 : Value} (h : R (.tuple #[v, .agg cs, .agg cs2, v2]) hp) (hr : fn.results = #[.tmp s0, .cell a t, .cell a2 t2, .tmp s2] := by rfl) (h0 : look l s0 = some v := by rfl) (hv : look l a = some (.pointer (some ⟨b, 0, none⟩)) := by rfl) (hw : look l a2 = some (.pointer (some ⟨b2, 0, none⟩)) := by rfl) (h3 : look l s2 = some v2 := by rfl) (hag : mem Tb.ag t = true := by rfl) (hm : (⟨b, cs, tb⟩ : Blk) ∈ hp := by (first | (with_reducible apply mh) | (focus ((repeat (first | (with_reducible apply mh) | (with_reducible apply mt) | (with_reducible apply List.mem_append_right))); done)))) (hz : lk Tb.sz t = some cs.size := by rfl) (hag2 : mem Tb.ag t2 = true := by rfl) (hm2 : (⟨b2, cs2, tb2⟩ : Blk) ∈ hp := by (first | (with_reducible apply mh) | (focus ((repeat (first | (with_reducible apply mh) | (with_reducible apply mt) | (with_reducible apply List.mem_append_right))); done)))) (hz2 : lk Tb.sz t2 = some cs2.size := by rfl) : Fin Tryz.prog fn R .ret l hp :=
  ⟨.inl rfl, [v, .agg cs, .agg cs2, v2], by rw [hr]; exact ⟨h0, ⟨⟨b, cs, tb⟩, hm, hv, .inr ⟨tb_ok.gag hag, tb_ok.gsz hz, rfl⟩⟩, ⟨⟨b2, cs2, tb2⟩, hm2, hw, .inr ⟨tb_ok.gag hag2, tb_ok.gsz hz2, rfl⟩⟩, h3, trivial⟩, h⟩
theorem Own.ptr {e sz : Nat} {xs : List (List Value)} {p : Option Addr} {n cp : Nat} {hb : Hp} (hA : Own e sz (.slice p n cp) hb xs) (h : xs ≠ []) : ∃ b o, p = some ⟨b, o, none⟩ := by
  rcases hA.2 with ⟨e1, _, _⟩ | ⟨g, cap, cur, e1, _, _⟩
  · exact absurd e1 h
  · injection e1 with e1 _ _
    exact ⟨g, 0, e1⟩
def SlIn (w0 : World) (mu : List Nat) (hb : Hp) (v : Value) (sz : Nat) (xs : List (List Value)) : Prop := ∀ hp w, (∀ b ∈ hb, b ∈ hp) → Good w0 mu hp w → SlAt w v sz xs
theorem SlIn.old {w0 : World} {v : Value} {sz : Nat} {xs : List (List Value)} (h : SlAt w0 v sz xs) : SlIn w0 [] [] v sz xs := fun hp w _ hG => (Sees.old h).good hG
theorem SlIn.own {w0 : World} {mu : List Nat} {e sz : Nat} {v : Value} {hb : Hp} {xs : List (List Value)} (hA : Own e sz v hb xs) (hl : xs.length ≤ 1000000) : SlIn w0 mu hb v sz xs := fun hp w hb' hG => hA.lie (fun b hb => hG.here b (hb' b hb)) (by omega)
set_option maxHeartbeats 2000000 in
theorem rPage14_e (c : AcC) (hk : AcOk c) {w : World} {mv tv dv : Value} (es : List EnD) (ds : List IvD) (hE : EsOk c.ws.length es ds) (hm : SlAt w mv 1 (c.ws.map uV)) (ht : SlAt w tv 14 (es.map enV)) (hcap : ∃ q cp, tv = .slice q es.length cp ∧ es.length ≤ cp) (hd : SlAt w dv 4 (ds.map ivV)) :
    Fn Tryz.prog 14 [.agg #[mv], .agg #[tv, dv], .agg (rtV c.one).toArray, .agg (rtV c.two).toArray, .int .i64 (c.page : Int), .int .i64 c.acc, .agg (pkV c.pk).toArray].toArray w [] (fun u hn => ∃ X : StR, X = pageA c es ∧ ∃ ev' dv' rv' he' hd' hr', u = .tuple #[.int .i64 X.n, ftV X.f, .agg #[ev', dv'], rv'] ∧ Own 88 14 ev' he' (X.s.es.map enV) ∧ Own 94 4 dv' hd' (ds.map ivV) ∧ Own 3 1 rv' hr' (X.s.rd.map inV) ∧ HpLe (he' ++ hd' ++ hr') hn) := by
  have hm' := hm
  have ht' := ht
  have hd1 := hd
  have hcap' := hcap
  obtain ⟨qm, cm, rfl, _, _⟩ := hm.opened
  obtain ⟨qe, ce, rfl, hle⟩ := hcap
  obtain ⟨qd, cd, rfl, _, _⟩ := hd.opened
  have hTp : es ≠ [] → ∃ b o, qe = some ⟨b, o, none⟩ := by
    obtain ⟨q', c', e', h', _⟩ := ht.opened
    injection e' with e1 _ _
    subst e1
    exact h'
  have hmi := memOk_iff hk.mem
  have hem := hE.may
  refine enter Tryz.func14 ?_
  refine run ?_
  intro B
  refine runG ?_
  intro C
  refine runG ?_
  intro D E F G H
  refine runG ?_
  have hE' := drop_ok hE c.pk.drop
  have hAc : pageA c es = pageB c (dropL es c.pk.drop) := rfl
  refine st_cutD (σ := Value × Value × Hp × Hp) (fun _ => []) (fun z => ⟨H, #[.slice none 0 0, .slice none 0 0], 35⟩ :: ⟨G, #[.int .i64 0, .int .i64 0, .int .i64 0, .bool false, .int .i64 0], 44⟩ :: ⟨F, (pkV c.pk).toArray, 42⟩ :: ⟨E, (rtV c.two).toArray, 29⟩ :: ⟨D, (rtV c.one).toArray, 29⟩ :: ⟨C, #[z.1, z.2.1], 35⟩ :: ⟨B, #[.slice qm c.ws.length cm], 24⟩ :: (z.2.2.1 ++ z.2.2.2)) (fun z => ((∃ q cp, z.1 = .slice q (dropL es c.pk.drop).length cp ∧ (0 < (dropL es c.pk.drop).length → ∃ b o, q = some ⟨b, o, none⟩)) ∧ SlIn w [] z.2.2.1 z.1 14 ((dropL es c.pk.drop).map enV)) ∧ (∃ q n cp, z.2.1 = .slice q n cp) ∧ SlIn w [] z.2.2.2 z.2.1 4 (ds.map ivV)) ?_ ?_
  · refine st_cond _ rfl (fun hc => ?_) (fun hc => ?_)
    · have hdl : dropL es c.pk.drop = es.eraseIdx c.pk.drop.toNat := by unfold dropL; rw [hc]; rfl
      rw [hdl]
      rw [Bool.and_eq_true, decide_eq_true_eq, decide_eq_true_eq] at hc
      have hdz : c.pk.drop = ((c.pk.drop.toNat : Nat) : Int) := by omega
      refine run ?_
      have hdr := fun {wc : World} (ha : SlAt wc (.slice qe es.length ce) 14 (es.map enV)) (hb : SlAt wc (.slice qd ds.length cd) 4 (ds.map ivV)) => drop9_e es ds c.pk.drop.toNat (by omega) _ _ ha hcap' hb (by omega) (by omega)
      rw [← hdz] at hdr
      refine callB (fun wc hG => hdr ((Sees.old ht').good hG) ((Sees.old hd1).good hG)) ?_
      rintro u5 hn5 ⟨v5, h5, v6, h6, rfl, hA5, hA6, hle5⟩
      obtain ⟨q5, c5, e5⟩ := hA5.opened
      rw [List.length_map] at e5
      subst e5
      obtain ⟨q6, c6, e6⟩ := hA6.own.opened
      rw [List.length_map] at e6
      subst e6
      refine ops_le (⟨H, #[.slice none 0 0, .slice none 0 0], 35⟩ :: ⟨G, #[.int .i64 0, .int .i64 0, .int .i64 0, .bool false, .int .i64 0], 44⟩ :: ⟨F, (pkV c.pk).toArray, 42⟩ :: ⟨E, (rtV c.two).toArray, 29⟩ :: ⟨D, (rtV c.one).toArray, 29⟩ :: ⟨C, #[.slice qe es.length ce, .slice qd ds.length cd], 35⟩ :: ⟨B, #[.slice qm c.ws.length cm], 24⟩ :: (h5 ++ h6)) (by (refine hpLe_cnt fun a => ?_; have := HpLe.cnt hle5 a; simp only [cntB_app, cntB_cons, cntB_nil] at *; omega)) ?_
      refine run ?_
      exact meetS (_, _, h5, h6) ⟨⟨⟨_, _, rfl, fun h => hA5.ptr (by intro e; rw [List.map_eq_nil_iff] at e; rw [e] at h; simp at h)⟩, SlIn.own hA5 (by rw [List.length_map]; have := (List.eraseIdx_sublist es c.pk.drop.toNat).length_le; omega)⟩, ⟨_, _, _, rfl⟩, SlIn.own hA6.own (by rw [List.length_map]; omega)⟩ (h2 := by (refine hpLe_cnt fun a => ?_; have := HpLe.cnt hle5 a; simp only [cntB_app, cntB_cons, cntB_nil] at *; omega))
    · refine run ?_
      rw [show dropL es c.pk.drop = es by unfold dropL; rw [hc]; rfl]
      exact meetS (.slice qe es.length ce, .slice qd ds.length cd, [], []) ⟨⟨⟨_, _, rfl, fun h => hTp (by intro e; subst e; simp at h)⟩, SlIn.old ht'⟩, ⟨_, _, _, rfl⟩, SlIn.old hd1⟩ (h2 := by (refine hpLe_cnt fun a => ?_; simp only [cntB_app, cntB_cons, cntB_nil]; omega))
  rw [hAc]
  clear hAc
  generalize dropL es c.pk.drop = es at hE' ⊢
  have hem' := hE'.may
  rintro ⟨tv, dv, h1, h2⟩ ⟨⟨⟨qt, ct, etv, hTn⟩, hT⟩, hDv, hD⟩
  dsimp only at etv hTn hT hDv hD ⊢
  refine run ?_
  have hall : HpLe ([] : Hp) [] := HpLe.refl _
  refine drawC 8 2 [0, 1, 3, 4, 5] [2, 6, 7] (⟨H, #[.slice none 0 0, .slice none 0 0], 35⟩ :: ⟨G, #[.int .i64 0, .int .i64 0, .int .i64 0, .bool false, .int .i64 0], 44⟩ :: ⟨F, (pkV c.pk).toArray, 42⟩ :: ⟨E, (rtV c.two).toArray, 29⟩ :: ⟨D, (rtV c.one).toArray, 29⟩ :: ⟨C, #[tv, dv], 35⟩ :: ⟨B, #[.slice qm c.ws.length cm], 24⟩ :: (h1 ++ h2)) ?_
  refine runZ ?_
  refine cCall (fun wc hG => copyTLB_e es ds _ _ (hT _ _ (fun b hb => by simp [hb]) hG) (hD _ _ (fun b hb => by simp [hb]) hG) (by omega) (by omega)) ?_
  rintro u5 hn5 ⟨v5, h5, v6, h6, rfl, hA5, hA6, hle5⟩
  refine cBuild (out := #[.slice qm c.ws.length cm, v5, v6, .bool c.one.on, .int .i64 c.one.frame, .int .i64 c.one.tag, .bool c.two.on, .int .i64 c.two.frame, .int .i64 c.two.tag, .int .i64 c.pk.cpu, .bool c.pk.fill, .bool c.pk.mids, .bool c.pk.walk, .int .i64 c.pk.drop, .bool c.pk.use, .slice none 0 0]) (out' := #[.slice qm c.ws.length cm, v5, v6, .bool c.one.on, .int .i64 c.one.frame, .int .i64 c.one.tag, .bool c.two.on, .int .i64 c.two.frame, .int .i64 c.two.tag, .int .i64 c.pk.cpu, .bool c.pk.fill, .bool c.pk.mids, .bool c.pk.walk, .int .i64 c.pk.drop, .bool c.pk.use, .slice none 0 0]) ?_ (hf := by kernel_rfl) (hn := rfl)
  refine cBox (fun Wb => ?_)
  refine dc_nil ?_
  refine opsC ?_
  obtain ⟨q5, c5, e5⟩ := hA5.own.opened
  obtain ⟨q6, c6, e6⟩ := hA6.own.opened
  rw [List.length_map] at e5 e6
  subst e5 e6
  refine ops_le (⟨Wb, #[.slice qm c.ws.length cm, .slice q5 es.length c5, .slice q6 ds.length c6, .bool c.one.on, .int .i64 c.one.frame, .int .i64 c.one.tag, .bool c.two.on, .int .i64 c.two.frame, .int .i64 c.two.tag, .int .i64 c.pk.cpu, .bool c.pk.fill, .bool c.pk.mids, .bool c.pk.walk, .int .i64 c.pk.drop, .bool c.pk.use, .slice none 0 0], 83⟩ :: ⟨H, #[.slice none 0 0, .slice none 0 0], 35⟩ :: ⟨G, #[.int .i64 0, .int .i64 0, .int .i64 0, .bool false, .int .i64 0], 44⟩ :: ⟨F, (pkV c.pk).toArray, 42⟩ :: ⟨E, (rtV c.two).toArray, 29⟩ :: ⟨D, (rtV c.one).toArray, 29⟩ :: ⟨C, #[tv, dv], 35⟩ :: ⟨B, #[.slice qm c.ws.length cm], 24⟩ :: (h5 ++ h6 ++ (h1 ++ h2))) (by (refine hpLe_cnt fun a => ?_; have := HpLe.cnt hle5 a; simp only [cntB_app, cntB_cons, cntB_nil] at *; omega)) ?_
  refine run ?_
  refine st_cond _ rfl (fun hc => ?_) (fun hc => ?_)
  · have hP : pageB c es = ⟨(midA c ⟨es, []⟩ c.page c.acc).s, (midA c ⟨es, []⟩ c.page c.acc).n, (midA c ⟨es, []⟩ c.page c.acc).f⟩ := by unfold pageB; rw [hc]; rfl
    rw [hP]
    refine run ?_
    refine callM (⟨Wb, #[.slice qm c.ws.length cm, .slice q5 es.length c5, .slice q6 ds.length c6, .bool c.one.on, .int .i64 c.one.frame, .int .i64 c.one.tag, .bool c.two.on, .int .i64 c.two.frame, .int .i64 c.two.tag, .int .i64 c.pk.cpu, .bool c.pk.fill, .bool c.pk.mids, .bool c.pk.walk, .int .i64 c.pk.drop, .bool c.pk.use, .slice none 0 0], 83⟩ :: (h5 ++ h6 ++ [])) (⟨H, #[.slice none 0 0, .slice none 0 0], 35⟩ :: ⟨G, #[.int .i64 0, .int .i64 0, .int .i64 0, .bool false, .int .i64 0], 44⟩ :: ⟨F, (pkV c.pk).toArray, 42⟩ :: ⟨E, (rtV c.two).toArray, 29⟩ :: ⟨D, (rtV c.one).toArray, 29⟩ :: ⟨C, #[tv, dv], 35⟩ :: ⟨B, #[.slice qm c.ws.length cm], 24⟩ :: (h1 ++ h2)) (fun wc hG => rMid14_e c hk.w64 hk.mem hk.on (RtD.may_iff hk.two).1.1 ⟨es, []⟩ ds c.page hk.page c.acc hE' (by simp) ((Sees.old hm').into hG) hA5.own hA6.own (Own.nil _ _) hG.hereN) ?_ (by (refine perm_cnt fun a => ?_; simp only [cntB_app, cntB_cons, cntB_nil]; omega))
    rintro u1 hn1 ⟨ev2, dv2, rv2, he2, hd2, hr2, rfl, h11, h21, h31, hle1⟩
    simp only [wkC] at hle1
    generalize midA c ⟨es, []⟩ c.page c.acc = Y at h11 h31 ⊢
    refine ops_le (⟨Wb, #[.slice qm c.ws.length cm, ev2, dv2, .bool c.one.on, .int .i64 c.one.frame, .int .i64 c.one.tag, .bool c.two.on, .int .i64 c.two.frame, .int .i64 c.two.tag, .int .i64 c.pk.cpu, .bool c.pk.fill, .bool c.pk.mids, .bool c.pk.walk, .int .i64 c.pk.drop, .bool c.pk.use, rv2], 83⟩ :: ⟨H, #[.slice none 0 0, .slice none 0 0], 35⟩ :: ⟨G, #[.int .i64 0, .int .i64 0, .int .i64 0, .bool false, .int .i64 0], 44⟩ :: (he2 ++ hd2 ++ hr2)) (by (refine hpLe_cnt fun a => ?_; have := HpLe.cnt hle1 a; simp only [cntB_app, cntB_cons, cntB_nil] at *; omega)) ?_
    refine run ?_
    intro A1 A2
    obtain ⟨q7, c7, e7⟩ := h11.opened
    obtain ⟨q8, c8, e8⟩ := h21.opened
    obtain ⟨q9, c9, e9⟩ := h31.opened
    rw [List.length_map] at e7 e8 e9
    subst e7 e8 e9
    refine dropS 14 ?_
    refine drawC 13 11 [0, 1, 2, 3, 4, 5, 6, 7, 8, 9, 10] [11, 12] (⟨A2, #[.int .i64 Y.f.kind, .int .i64 Y.f.stage, .int .i64 Y.f.level, .bool Y.f.walk, .int .i64 Y.f.page], 44⟩ :: ⟨Wb, #[.slice qm c.ws.length cm, .slice q7 Y.s.es.length c7, .slice q8 ds.length c8, .bool c.one.on, .int .i64 c.one.frame, .int .i64 c.one.tag, .bool c.two.on, .int .i64 c.two.frame, .int .i64 c.two.tag, .int .i64 c.pk.cpu, .bool c.pk.fill, .bool c.pk.mids, .bool c.pk.walk, .int .i64 c.pk.drop, .bool c.pk.use, .slice q9 Y.s.rd.length c9], 83⟩ :: (he2 ++ hd2 ++ hr2)) ?_
    refine runZ ?_
    refine cStore (b := G) (tb := 44) (cs := #[.int .i64 0, .int .i64 0, .int .i64 0, .bool false, .int .i64 0]) (cs' := #[.int .i64 Y.f.kind, .int .i64 Y.f.stage, .int .i64 Y.f.level, .bool Y.f.walk, .int .i64 Y.f.page]) (hp' := ⟨H, #[.slice none 0 0, .slice none 0 0], 35⟩ :: ⟨A2, #[.int .i64 Y.f.kind, .int .i64 Y.f.stage, .int .i64 Y.f.level, .bool Y.f.walk, .int .i64 Y.f.page], 44⟩ :: Blk.mk A1 #[.bool Y.a.r, .bool Y.a.w, .bool Y.a.x, .bool Y.a.af, .bool Y.a.ng, .int .i64 0] 60 :: ⟨Wb, #[.slice qm c.ws.length cm, .slice q7 Y.s.es.length c7, .slice q8 ds.length c8, .bool c.one.on, .int .i64 c.one.frame, .int .i64 c.one.tag, .bool c.two.on, .int .i64 c.two.frame, .int .i64 c.two.tag, .int .i64 c.pk.cpu, .bool c.pk.fill, .bool c.pk.mids, .bool c.pk.walk, .int .i64 c.pk.drop, .bool c.pk.use, .slice q9 Y.s.rd.length c9], 83⟩ :: (he2 ++ hd2 ++ hr2)) ?_ (by (refine perm_cnt fun a => ?_; simp only [cntB_app, cntB_cons, cntB_nil]; omega))
    refine cStore (b := H) (tb := 35) (cs := #[.slice none 0 0, .slice none 0 0]) (cs' := #[.slice q7 Y.s.es.length c7, .slice q8 ds.length c8]) (hp' := ⟨G, #[.int .i64 Y.f.kind, .int .i64 Y.f.stage, .int .i64 Y.f.level, .bool Y.f.walk, .int .i64 Y.f.page], 44⟩ :: ⟨A2, #[.int .i64 Y.f.kind, .int .i64 Y.f.stage, .int .i64 Y.f.level, .bool Y.f.walk, .int .i64 Y.f.page], 44⟩ :: Blk.mk A1 #[.bool Y.a.r, .bool Y.a.w, .bool Y.a.x, .bool Y.a.af, .bool Y.a.ng, .int .i64 0] 60 :: ⟨Wb, #[.slice qm c.ws.length cm, .slice q7 Y.s.es.length c7, .slice q8 ds.length c8, .bool c.one.on, .int .i64 c.one.frame, .int .i64 c.one.tag, .bool c.two.on, .int .i64 c.two.frame, .int .i64 c.two.tag, .int .i64 c.pk.cpu, .bool c.pk.fill, .bool c.pk.mids, .bool c.pk.walk, .int .i64 c.pk.drop, .bool c.pk.use, .slice q9 Y.s.rd.length c9], 83⟩ :: (he2 ++ hd2 ++ hr2)) ?_ (by (refine perm_cnt fun a => ?_; simp only [cntB_app, cntB_cons, cntB_nil]; omega))
    refine dc_nil ?_
    refine opsC ?_
    refine run ?_
    exact finTAAT (cs := #[.int .i64 Y.f.kind, .int .i64 Y.f.stage, .int .i64 Y.f.level, .bool Y.f.walk, .int .i64 Y.f.page]) (cs2 := #[.slice q7 Y.s.es.length c7, .slice q8 ds.length c8]) ⟨_, rfl, _, _, _, he2, hd2, hr2, rfl, h11, h21, h31, by (refine hpLe_cnt fun a => ?_; simp only [cntB_app, cntB_cons, cntB_nil]; omega)⟩
  have hon : c.one.on = true := by simpa using hc
  have hP : pageB c es = bif c.pk.use && decide (0 ≤ wholeI c es) then ⟨⟨es, []⟩, (es.getD (wholeI c es).toNat default).frame, noFt⟩ else pageW c es := by unfold pageB; rw [hc]; rfl
  rw [hP]
  clear hP
  refine run ?_
  refine st_cutD (σ := Unit) (fun _ => []) (fun _ => ⟨Wb, #[.slice qm c.ws.length cm, .slice q5 es.length c5, .slice q6 ds.length c6, .bool c.one.on, .int .i64 c.one.frame, .int .i64 c.one.tag, .bool c.two.on, .int .i64 c.two.frame, .int .i64 c.two.tag, .int .i64 c.pk.cpu, .bool c.pk.fill, .bool c.pk.mids, .bool c.pk.walk, .int .i64 c.pk.drop, .bool c.pk.use, .slice none 0 0], 83⟩ :: ⟨H, #[.slice none 0 0, .slice none 0 0], 35⟩ :: ⟨G, #[.int .i64 0, .int .i64 0, .int .i64 0, .bool false, .int .i64 0], 44⟩ :: ⟨F, (pkV c.pk).toArray, 42⟩ :: ⟨E, (rtV c.two).toArray, 29⟩ :: ⟨D, (rtV c.one).toArray, 29⟩ :: ⟨C, #[tv, dv], 35⟩ :: ⟨B, #[.slice qm c.ws.length cm], 24⟩ :: (h5 ++ h6 ++ (h1 ++ h2))) (fun _ => (c.pk.use && decide (0 ≤ wholeI c es)) = false) ?_ ?_
  · refine st_cond _ rfl (fun hc2 => ?_) (fun hc2 => ?_)
    · refine run ?_
      refine callE (fun wc hG => whole9_e es c.two.tag c.one.tag c.page c.acc tv dv (hT _ _ (fun b hb => by simp [hb]) hG) hDv) ?_
      rw [show idxI (pWhole c.two.tag c.one.tag c.page c.acc) es = wholeI c es from rfl]
      refine run ?_
      refine st_cond _ rfl (fun hc3 => ?_) (fun hc3 => ?_)
      · rw [show (c.pk.use && decide (0 ≤ wholeI c es)) = true by rw [hc2, hc3]; rfl, cond_true]
        obtain ⟨hlt, _⟩ := idxI_at2 (p := pWhole c.two.tag c.one.tag c.page c.acc) (l := es) (of_decide_eq_true hc3)
        replace hlt : (wholeI c es).toNat < es.length := hlt
        have hz0 : 0 ≤ wholeI c es := of_decide_eq_true hc3
        generalize wholeI c es = z at hlt hz0 ⊢
        obtain ⟨kb, ko, rfl⟩ := hTn (by omega)
        subst etv
        have hcell := fun (hp1 : Hp) (w1 : World) (hsub : ∀ b ∈ h1, b ∈ hp1) (hG : Good w [] hp1 w1) => (hT hp1 w1 hsub hG).row hlt 6 (.int .i64 (es.getD z.toNat default).frame) rfl
        refine run ?_
        refine dropS 14 ?_
        refine drawC 14 12 [0, 1, 2, 3, 4, 5, 6, 7, 8, 9, 10, 11] [12, 13] (⟨Wb, #[.slice qm c.ws.length cm, .slice q5 es.length c5, .slice q6 ds.length c6, .bool c.one.on, .int .i64 c.one.frame, .int .i64 c.one.tag, .bool c.two.on, .int .i64 c.two.frame, .int .i64 c.two.tag, .int .i64 c.pk.cpu, .bool c.pk.fill, .bool c.pk.mids, .bool c.pk.walk, .int .i64 c.pk.drop, .bool c.pk.use, .slice none 0 0], 83⟩ :: ⟨F, (pkV c.pk).toArray, 42⟩ :: ⟨E, (rtV c.two).toArray, 29⟩ :: ⟨D, (rtV c.one).toArray, 29⟩ :: ⟨C, #[.slice (some ⟨kb, ko, none⟩) es.length ct, dv], 35⟩ :: ⟨B, #[.slice qm c.ws.length cm], 24⟩ :: (h5 ++ h6 ++ (h1 ++ h2))) ?_
        refine runZ ?_
        refine ds_a (by rfl) (by decide +kernel) (fun hx => x_loadW rfl rfl (fun w1 hG => hcell _ w1 (fun b hb => by simp [hb]) hG)) ?_
        refine runZ ?_
        refine cStore (b := G) (tb := 44) (cs := #[.int .i64 0, .int .i64 0, .int .i64 0, .bool false, .int .i64 0]) (cs' := #[.int .i64 0, .int .i64 0, .int .i64 0, .bool false, .int .i64 0]) (hp' := ⟨H, #[.slice none 0 0, .slice none 0 0], 35⟩ :: ⟨Wb, #[.slice qm c.ws.length cm, .slice q5 es.length c5, .slice q6 ds.length c6, .bool c.one.on, .int .i64 c.one.frame, .int .i64 c.one.tag, .bool c.two.on, .int .i64 c.two.frame, .int .i64 c.two.tag, .int .i64 c.pk.cpu, .bool c.pk.fill, .bool c.pk.mids, .bool c.pk.walk, .int .i64 c.pk.drop, .bool c.pk.use, .slice none 0 0], 83⟩ :: ⟨F, (pkV c.pk).toArray, 42⟩ :: ⟨E, (rtV c.two).toArray, 29⟩ :: ⟨D, (rtV c.one).toArray, 29⟩ :: ⟨C, #[.slice (some ⟨kb, ko, none⟩) es.length ct, dv], 35⟩ :: ⟨B, #[.slice qm c.ws.length cm], 24⟩ :: (h5 ++ h6 ++ (h1 ++ h2))) ?_ (by (refine perm_cnt fun a => ?_; simp only [cntB_app, cntB_cons, cntB_nil]; omega))
        refine cStore (b := H) (tb := 35) (cs := #[.slice none 0 0, .slice none 0 0]) (cs' := #[.slice q5 es.length c5, .slice q6 ds.length c6]) (hp' := ⟨G, #[.int .i64 0, .int .i64 0, .int .i64 0, .bool false, .int .i64 0], 44⟩ :: ⟨Wb, #[.slice qm c.ws.length cm, .slice q5 es.length c5, .slice q6 ds.length c6, .bool c.one.on, .int .i64 c.one.frame, .int .i64 c.one.tag, .bool c.two.on, .int .i64 c.two.frame, .int .i64 c.two.tag, .int .i64 c.pk.cpu, .bool c.pk.fill, .bool c.pk.mids, .bool c.pk.walk, .int .i64 c.pk.drop, .bool c.pk.use, .slice none 0 0], 83⟩ :: ⟨F, (pkV c.pk).toArray, 42⟩ :: ⟨E, (rtV c.two).toArray, 29⟩ :: ⟨D, (rtV c.one).toArray, 29⟩ :: ⟨C, #[.slice (some ⟨kb, ko, none⟩) es.length ct, dv], 35⟩ :: ⟨B, #[.slice qm c.ws.length cm], 24⟩ :: (h5 ++ h6 ++ (h1 ++ h2))) ?_ (by (refine perm_cnt fun a => ?_; simp only [cntB_app, cntB_cons, cntB_nil]; omega))
        refine dc_nil ?_
        refine opsC ?_
        refine run ?_
        exact finTAAT (cs := #[.int .i64 0, .int .i64 0, .int .i64 0, .bool false, .int .i64 0]) (cs2 := #[.slice q5 es.length c5, .slice q6 ds.length c6]) ⟨_, rfl, _, _, _, h5, h6, [], rfl, hA5.own, hA6.own, Own.nil _ _, by (refine hpLe_cnt fun a => ?_; simp only [cntB_app, cntB_cons, cntB_nil]; omega)⟩
      · refine run ?_
        exact meetS () (by rw [hc3]; simp)
    · refine run ?_
      exact meetS () (by rw [hc2]; rfl)
  rintro ⟨⟩ hcut
  rw [hcut, cond_false]
  refine run ?_
  refine st_cutD (σ := Int × Int) (fun z => [(23, .int .i64 z.1), (24, .int .i64 z.2)]) (fun _ => ⟨Wb, #[.slice qm c.ws.length cm, .slice q5 es.length c5, .slice q6 ds.length c6, .bool c.one.on, .int .i64 c.one.frame, .int .i64 c.one.tag, .bool c.two.on, .int .i64 c.two.frame, .int .i64 c.two.tag, .int .i64 c.pk.cpu, .bool c.pk.fill, .bool c.pk.mids, .bool c.pk.walk, .int .i64 c.pk.drop, .bool c.pk.use, .slice none 0 0], 83⟩ :: ⟨H, #[.slice none 0 0, .slice none 0 0], 35⟩ :: ⟨G, #[.int .i64 0, .int .i64 0, .int .i64 0, .bool false, .int .i64 0], 44⟩ :: ⟨F, (pkV c.pk).toArray, 42⟩ :: ⟨E, (rtV c.two).toArray, 29⟩ :: ⟨D, (rtV c.one).toArray, 29⟩ :: ⟨C, #[tv, dv], 35⟩ :: ⟨B, #[.slice qm c.ws.length cm], 24⟩ :: (h5 ++ h6 ++ (h1 ++ h2))) (fun z => ∃ lv : Nat, z.1 = (lv : Int) ∧ lv < 4 ∧ (z.2 = -1 ∧ lv = 0 ∨ hasF c.ws.length z.2 = true) ∧ (bif decide (z.2 < 0) then rootA c ⟨es, []⟩ else stgA c (4 - lv) lv z.2 ⟨es, []⟩) = pageW c es) ?_ ?_
  · refine st_cond _ rfl (fun hc2 => ?_) (fun hc2 => ?_)
    · refine run ?_
      refine callE (fun wc hG => walk9_e es hem'.1 c.two.tag c.one.tag c.page hk.page tv dv (hT _ _ (fun b hb => by simp [hb]) hG) hDv) ?_
      rw [show bestI es (pWlk c.two.tag c.one.tag c.page) es.length = walkI c es from rfl]
      refine run ?_
      refine st_cond _ rfl (fun hc3 => ?_) (fun hc3 => ?_)
      · obtain ⟨hlt, hl1, hl3, hfr⟩ := walk_at hE' (of_decide_eq_true hc3)
        have hpw : pageW c es = stgA c (4 - (es.getD (walkI c es).toNat default).level.toNat) (es.getD (walkI c es).toNat default).level.toNat (es.getD (walkI c es).toNat default).frame ⟨es, []⟩ := by unfold pageW; rw [hc2, hc3]; rfl
        have hz0 : 0 ≤ walkI c es := of_decide_eq_true hc3
        rw [hpw]
        clear hpw hc3
        generalize walkI c es = z at hlt hz0 hl1 hl3 hfr ⊢
        obtain ⟨kb, ko, rfl⟩ := hTn (by omega)
        subst etv
        have hcell := fun (hp1 : Hp) (w1 : World) (hsub : ∀ b ∈ h1, b ∈ hp1) (hG : Good w [] hp1 w1) => (hT hp1 w1 hsub hG).row hlt
        refine run ?_
        refine dropS 23 ?_
        refine dropS 24 ?_
        refine drawAll ?_
        refine runD ?_
        refine opD (x_loadW rfl rfl (fun w1 hG => hcell _ w1 (fun b hb => by simp [hb]) hG 5 (.int .i64 (es.getD z.toNat default).level) rfl)) ?_
        refine runD ?_
        refine opD (x_loadW rfl rfl (fun w1 hG => hcell _ w1 (fun b hb => by simp [hb]) hG 6 (.int .i64 (es.getD z.toNat default).frame) rfl)) ?_
        refine runD ?_
        refine run ?_
        exact meetS ((es.getD z.toNat default).level, (es.getD z.toNat default).frame) ⟨(es.getD z.toNat default).level.toNat, by omega, by omega, .inr hfr, by rw [show decide ((es.getD z.toNat default).frame < 0) = false from decide_eq_false (by have := hasF_iff hfr; omega)]; rfl⟩
      · refine run ?_
        exact meetS (0, -1) ⟨0, rfl, by omega, .inl ⟨rfl, rfl⟩, by unfold pageW; rw [hc3, Bool.and_false]; rfl⟩
    · refine run ?_
      exact meetS (0, -1) ⟨0, rfl, by omega, .inl ⟨rfl, rfl⟩, by unfold pageW; rw [hc2]; rfl⟩
  rintro ⟨lvi, fr⟩ ⟨lv, elv, hlv, hfr, hX⟩
  dsimp only at elv hfr hX ⊢
  subst elv
  rw [← hX]
  refine run ?_
  refine callM (⟨Wb, #[.slice qm c.ws.length cm, .slice q5 es.length c5, .slice q6 ds.length c6, .bool c.one.on, .int .i64 c.one.frame, .int .i64 c.one.tag, .bool c.two.on, .int .i64 c.two.frame, .int .i64 c.two.tag, .int .i64 c.pk.cpu, .bool c.pk.fill, .bool c.pk.mids, .bool c.pk.walk, .int .i64 c.pk.drop, .bool c.pk.use, .slice none 0 0], 83⟩ :: (h5 ++ h6 ++ [])) (⟨H, #[.slice none 0 0, .slice none 0 0], 35⟩ :: ⟨G, #[.int .i64 0, .int .i64 0, .int .i64 0, .bool false, .int .i64 0], 44⟩ :: ⟨F, (pkV c.pk).toArray, 42⟩ :: ⟨E, (rtV c.two).toArray, 29⟩ :: ⟨D, (rtV c.one).toArray, 29⟩ :: ⟨C, #[tv, dv], 35⟩ :: ⟨B, #[.slice qm c.ws.length cm], 24⟩ :: (h1 ++ h2)) (fun wc hG => rStage_e c hk ⟨es, []⟩ ds lv hlv fr hfr hE' (by simp) ((Sees.old hm').into hG) hA5.own hA6.own (Own.nil _ _) hG.hereN) ?_ (by (refine perm_cnt fun a => ?_; simp only [cntB_app, cntB_cons, cntB_nil]; omega))
  rintro u1 hn1 ⟨Y, hY, ev2, dv2, rv2, he2, hd2, hr2, rfl, h11, h21, h31, hle1⟩
  rw [← hY]
  clear hX hY
  simp only [wkC] at hle1
  obtain ⟨q7, c7, e7⟩ := h11.opened
  obtain ⟨q8, c8, e8⟩ := h21.opened
  obtain ⟨q9, c9, e9⟩ := h31.opened
  rw [List.length_map] at e7 e8 e9
  subst e7 e8 e9
  refine ops_le (⟨Wb, #[.slice qm c.ws.length cm, .slice q7 Y.s.es.length c7, .slice q8 ds.length c8, .bool c.one.on, .int .i64 c.one.frame, .int .i64 c.one.tag, .bool c.two.on, .int .i64 c.two.frame, .int .i64 c.two.tag, .int .i64 c.pk.cpu, .bool c.pk.fill, .bool c.pk.mids, .bool c.pk.walk, .int .i64 c.pk.drop, .bool c.pk.use, .slice q9 Y.s.rd.length c9], 83⟩ :: ⟨H, #[.slice none 0 0, .slice none 0 0], 35⟩ :: ⟨G, #[.int .i64 0, .int .i64 0, .int .i64 0, .bool false, .int .i64 0], 44⟩ :: (he2 ++ hd2 ++ hr2)) (by (refine hpLe_cnt fun a => ?_; have := HpLe.cnt hle1 a; simp only [cntB_app, cntB_cons, cntB_nil] at *; omega)) ?_
  refine run ?_
  intro A2
  refine run ?_
  refine dropS 14 ?_
  refine drawC 13 11 [0, 1, 2, 3, 4, 5, 6, 7, 8, 9, 10] [11, 12] (⟨A2, #[.int .i64 Y.f.kind, .int .i64 Y.f.stage, .int .i64 Y.f.level, .bool Y.f.walk, .int .i64 Y.f.page], 44⟩ :: ⟨Wb, #[.slice qm c.ws.length cm, .slice q7 Y.s.es.length c7, .slice q8 ds.length c8, .bool c.one.on, .int .i64 c.one.frame, .int .i64 c.one.tag, .bool c.two.on, .int .i64 c.two.frame, .int .i64 c.two.tag, .int .i64 c.pk.cpu, .bool c.pk.fill, .bool c.pk.mids, .bool c.pk.walk, .int .i64 c.pk.drop, .bool c.pk.use, .slice q9 Y.s.rd.length c9], 83⟩ :: (he2 ++ hd2 ++ hr2)) ?_
  refine runZ ?_
  refine cStore (b := G) (tb := 44) (cs := #[.int .i64 0, .int .i64 0, .int .i64 0, .bool false, .int .i64 0]) (cs' := #[.int .i64 Y.f.kind, .int .i64 Y.f.stage, .int .i64 Y.f.level, .bool Y.f.walk, .int .i64 Y.f.page]) (hp' := ⟨H, #[.slice none 0 0, .slice none 0 0], 35⟩ :: ⟨A2, #[.int .i64 Y.f.kind, .int .i64 Y.f.stage, .int .i64 Y.f.level, .bool Y.f.walk, .int .i64 Y.f.page], 44⟩ :: ⟨Wb, #[.slice qm c.ws.length cm, .slice q7 Y.s.es.length c7, .slice q8 ds.length c8, .bool c.one.on, .int .i64 c.one.frame, .int .i64 c.one.tag, .bool c.two.on, .int .i64 c.two.frame, .int .i64 c.two.tag, .int .i64 c.pk.cpu, .bool c.pk.fill, .bool c.pk.mids, .bool c.pk.walk, .int .i64 c.pk.drop, .bool c.pk.use, .slice q9 Y.s.rd.length c9], 83⟩ :: (he2 ++ hd2 ++ hr2)) ?_ (by (refine perm_cnt fun a => ?_; simp only [cntB_app, cntB_cons, cntB_nil]; omega))
  refine cStore (b := H) (tb := 35) (cs := #[.slice none 0 0, .slice none 0 0]) (cs' := #[.slice q7 Y.s.es.length c7, .slice q8 ds.length c8]) (hp' := ⟨G, #[.int .i64 Y.f.kind, .int .i64 Y.f.stage, .int .i64 Y.f.level, .bool Y.f.walk, .int .i64 Y.f.page], 44⟩ :: ⟨A2, #[.int .i64 Y.f.kind, .int .i64 Y.f.stage, .int .i64 Y.f.level, .bool Y.f.walk, .int .i64 Y.f.page], 44⟩ :: ⟨Wb, #[.slice qm c.ws.length cm, .slice q7 Y.s.es.length c7, .slice q8 ds.length c8, .bool c.one.on, .int .i64 c.one.frame, .int .i64 c.one.tag, .bool c.two.on, .int .i64 c.two.frame, .int .i64 c.two.tag, .int .i64 c.pk.cpu, .bool c.pk.fill, .bool c.pk.mids, .bool c.pk.walk, .int .i64 c.pk.drop, .bool c.pk.use, .slice q9 Y.s.rd.length c9], 83⟩ :: (he2 ++ hd2 ++ hr2)) ?_ (by (refine perm_cnt fun a => ?_; simp only [cntB_app, cntB_cons, cntB_nil]; omega))
  refine dc_nil ?_
  refine opsC ?_
  refine run ?_
  exact finTAAT (cs := #[.int .i64 Y.f.kind, .int .i64 Y.f.stage, .int .i64 Y.f.level, .bool Y.f.walk, .int .i64 Y.f.page]) (cs2 := #[.slice q7 Y.s.es.length c7, .slice q8 ds.length c8]) ⟨_, rfl, _, _, _, he2, hd2, hr2, rfl, h11, h21, h31, by (refine hpLe_cnt fun a => ?_; simp only [cntB_app, cntB_cons, cntB_nil]; omega)⟩
end Go.Proofs.YtdaenalnmdmflaaGreat
namespace Go.Proofs.YtdaenalnmdmflaaGreat
open Go.RowKit
set_option linter.unusedVariables false
set_option linter.unusedSimpArgs false
set_option maxRecDepth 20000
attribute [local irreducible] Hy St Ops DH DHF DE1 DE2 DE3 DS DCh DWF
def heldL (n : Nat) (es : List EnD) : Bool := es.all fun e => decide (e.frame < ((n / 8 : Nat) : Int))
def whoL (one two : RtD) : Bool := one.may && two.may && two.on
def mayL (n : Nat) (es : List EnD) (ds : List IvD) (one two : RtD) (page acc : Int) : Bool := memOk n && tlbOk es ds && whoL one two && PtD.btw page 0 4095 && PtD.btw acc 0 2 && heldL n es
theorem root_e (r : RtD) (w : World) : Fn Tryz.prog 43 [.agg (rtV r).toArray].toArray w [] (fun u _ => u = .bool r.may) := by
  refine enter Tryz.func43 ?_
  refine run ?_
  intro B
  refine runG ?_
  refine callE (fun wc hG => rPage_e r.frame wc) ?_
  refine runG ?_
  refine callEG (fun _ wc hG => num_e r.tag 15 wc) ?_
  refine runG ?_
  exact fin1 rfl
theorem who_e (one two : RtD) (w : World) : Fn Tryz.prog 20 [.agg (rtV one).toArray, .agg (rtV two).toArray].toArray w [] (fun u _ => u = .bool (whoL one two)) := by
  refine enter Tryz.func20 ?_
  refine run ?_
  intro B C
  refine runG ?_
  refine callE (fun wc hG => root_e one wc) ?_
  refine runG ?_
  refine callEG (fun _ wc hG => root_e two wc) ?_
  refine runG ?_
  exact fin1 rfl
theorem acc_e (acc : Int) (w : World) : Fn Tryz.prog 34 [.int .i64 acc].toArray w [] (fun u _ => u = .bool (PtD.btw acc 0 2)) := by
  refine enter Tryz.func34 ?_
  refine run ?_
  refine callE (fun wc hG => num_e acc 2 wc) ?_
  refine run ?_
  exact fin1 rfl
theorem held_e (n cap : Nat) (hn : n < 4611686018427387904) (q : Option Addr) (es : List EnD) {w : World} {v u : Value} (h : SlAt w v 14 (es.map enV)) (hu : ∃ p n c, u = .slice p n c) : Fn Tryz.prog 35 [.agg #[.slice q n cap], .agg #[v, u]].toArray w [] (fun u _ => u = .bool (heldL n es)) := by
  obtain ⟨q1, c1, rfl, hne, hle⟩ := h.opened
  obtain ⟨q2, n2, c2, rfl⟩ := hu
  refine enter Tryz.func35 ?_
  refine run ?_
  intro B
  refine run ?_
  intro C
  refine run ?_
  refine loopS (σ := Nat) (fun k => [(5, .int .i64 (k : Int))]) (fun _ => [⟨C, #[.slice q1 es.length c1, .slice q2 n2 c2], 35⟩, ⟨B, #[.slice q n cap], 24⟩]) (fun k => k ≤ es.length ∧ heldL n (es.take k) = true) (fun k => es.length - k) 0 ⟨by omega, rfl⟩ ?_
  rintro k m hm ⟨hk, hT⟩
  refine run ?_
  refine st_cond _ rfl (fun hc => ?_) (fun hc => ?_)
  · have hlt : k < es.length := by simp at hc; omega
    obtain ⟨b, o, rfl⟩ := hne (by intro e; subst e; simp at hlt)
    have hrow := h.row hlt
    have hcell := hrow 6 (.int .i64 (es.getD k default).frame) rfl
    refine run ?_
    refine drawAll ?_
    refine runD ?_
    refine callD (fun wc hG => rFrames_e n cap hn q wc) ?_
    refine runD ?_
    refine run ?_
    refine st_cond _ rfl (fun hc2 => ?_) (fun hc2 => ?_)
    · refine run ?_
      refine fin1 ?_
      rw [show heldL n es = false by
        rw [heldL, List.all_eq_false]
        exact ⟨_, getD_mem hlt, by simp at hc2 ⊢; omega⟩]
    · refine run ?_
      refine nextS (k + 1) ⟨hlt, ?_⟩
      rw [take_next hlt, heldL, List.all_append, Bool.and_eq_true]
      exact ⟨hT, by simp at hc2 ⊢; omega⟩
  · have : k = es.length := by simp at hc; omega
    subst this
    refine run ?_
    rw [List.take_length] at hT
    refine fin1 ?_
    rw [hT]
theorem may14_e (es : List EnD) (ds : List IvD) (ws : List Nat) (one two : RtD) (page acc : Int) {w : World} {mv tv dv : Value} (hm : SlAt w mv 1 (ws.map uV)) (hn : ws.length < 1000000) (ht : SlAt w tv 14 (es.map enV)) (hd : SlAt w dv 4 (ds.map ivV)) : Fn Tryz.prog 12 [.agg #[mv], .agg #[tv, dv], .agg (rtV one).toArray, .agg (rtV two).toArray, .int .i64 page, .int .i64 acc].toArray w [] (fun u _ => u = .bool (mayL ws.length es ds one two page acc)) := by
  obtain ⟨q, cap, rfl, _, _⟩ := hm.opened
  have ht' := ht
  have hd' := hd
  obtain ⟨q1, c1, rfl, _, _⟩ := ht.opened
  obtain ⟨q2, c2, rfl, _, _⟩ := hd.opened
  refine enter Tryz.func12 ?_
  refine run ?_
  intro B1 B2 B3 B4
  refine runG ?_
  refine callE (fun wc hG => rMem_e ws.length cap q wc) ?_
  refine runG ?_
  refine callEG (fun _ wc hG => tlb9_e es ds _ _ ((Sees.old ht').good hG) ((Sees.old hd').good hG)) ?_
  refine runG ?_
  refine callEG (fun _ wc hG => who_e one two wc) ?_
  refine runG ?_
  refine callEG (fun _ wc hG => rPage_e page wc) ?_
  refine runG ?_
  refine callEG (fun _ wc hG => acc_e acc wc) ?_
  refine runG ?_
  refine callEG (fun _ wc hG => held_e ws.length cap (by omega) q es ((Sees.old ht').good hG) ⟨_, _, _, rfl⟩) ?_
  refine runG ?_
  exact fin1 rfl
theorem mayL_ok {c : AcC} {es : List EnD} {ds : List IvD} (hw : W64 c.ws) (h : mayL c.ws.length es ds c.one c.two (c.page : Int) c.acc = true) : AcOk c ∧ EsOk c.ws.length es ds ∧ 0 ≤ c.acc ∧ c.acc ≤ 2 := by
  simp only [mayL, whoL, Bool.and_eq_true] at h
  obtain ⟨⟨⟨⟨⟨h1, h2⟩, ⟨h3, h4⟩, h5⟩, h6⟩, h7⟩, h8⟩ := h
  have h6' : (0 : Int) ≤ c.page ∧ (c.page : Int) ≤ 4095 := by simpa [PtD.btw] using h6
  refine ⟨⟨hw, h1, h3, h4, h5, by omega⟩, ⟨h2, fun e he => ?_⟩, by simpa [PtD.btw] using h7⟩
  have h9 := List.all_eq_true.1 h8 e he
  have h10 := (tlb_may h2).1 e he
  simp only [EnD.may, EnD.nums, PtD.btw, Bool.and_eq_true, decide_eq_true_eq] at h10
  simp only [hasF, Bool.and_eq_true, decide_eq_true_eq]
  exact ⟨h10.1.1.1.2.1, of_decide_eq_true h9⟩
end Go.Proofs.YtdaenalnmdmflaaGreat
namespace Go.Proofs.YtdaenalnmdmflaaGreat
open Go.RowKit
set_option linter.unusedVariables false
set_option linter.unusedSimpArgs false
set_option maxRecDepth 20000
attribute [local irreducible] Hy St Ops DH DHF DE1 DE2 DE3 DS DCh DWF
theorem mFrames0_e (n cap : Nat) (hn : n < 4611686018427387904) (q : Option Addr) (w : World) : Fn Tryz.prog 78 [.agg #[.slice q n cap]].toArray w [] (fun u _ => u = .int .i64 ((n / 8 : Nat) : Int)) := by
  refine enter Tryz.func78 ?_
  refine run ?_
  intro B
  refine run ?_
  refine op1 (by rfl) (x_quoN rfl rfl n 8 (by rfl) (by rfl) (by decide) (by omega)) ?_
  refine run ?_
  exact fin1 rfl
theorem mFrames_e (n cap : Nat) (hn : n < 4611686018427387904) (q : Option Addr) (w : World) : Fn Tryz.prog 52 [.agg #[.slice q n cap]].toArray w [] (fun u _ => u = .tuple #[.int .i64 (bif memOk n then ((n / 8 : Nat) : Int) else 0), .int .i64 (bif memOk n then 0 else 1)]) := by
  refine enter Tryz.func52 ?_
  refine run ?_
  intro B
  refine run ?_
  refine callE (fun wc hG => mCheck_e n cap hn q wc) ?_
  refine run ?_
  refine st_cond _ rfl (fun hc => ?_) (fun hc => ?_)
  · have hm : memOk n = false := by cases h : memOk n <;> simp [h] at hc ⊢
    refine run ?_
    refine fin2 ?_
    rw [hm]; rfl
  · have hm : memOk n = true := by cases h : memOk n <;> simp [h] at hc ⊢
    refine run ?_
    refine callE (fun wc hG => mFrames0_e n cap hn q wc) ?_
    refine run ?_
    refine fin2 ?_
    rw [hm]; rfl
theorem mHas1_e (n cap : Nat) (hn : n < 4611686018427387904) (q : Option Addr) (f : Int) (B : Nat) (w : World) (hB : w.cell? ⟨B, 0, none⟩ = some (.slice q n cap)) : Fn Tryz.prog 139 ([] ++ [Value.int .i64 f] ++ [Value.pointer (some ⟨B, 0, none⟩)]).toArray w [] (fun u _ => u = .bool (!hasF n f)) := by
  have hr : w.rangeAt B 0 [.slice q n cap] := fun j v hj => by
    cases j with
    | zero => simp at hj; subst hj; exact hB
    | succ j => simp at hj
  refine enter Tryz.func139 ?_
  refine runG ?_
  refine callEG (fun _ wc hG => mFrames0_e n cap hn q wc) ?_
  refine runG ?_
  refine fin1 ?_
  unfold hasF
  rw [Bool.not_and]
  congr 1
  rw [← decide_not, ← decide_not]
  congr 1 <;> (rw [Bool.eq_iff_iff, decide_eq_true_eq, decide_eq_true_eq]; omega)
theorem mHas_e (n cap : Nat) (hn : n < 4611686018427387904) (q : Option Addr) (xs : List Int) {w : World} {v : Value} (h : SlAt w v 1 (xs.map inV)) : Fn Tryz.prog 132 [.agg #[.slice q n cap], v].toArray w [] (fun u _ => u = .bool (xs.all (hasF n))) := by
  refine enter Tryz.func132 ?_
  refine run ?_
  intro B
  refine run ?_
  refine callE (fun wc hG => containsFNum_e (us := [.pointer (some ⟨B, 0, none⟩)]) (fun x => !hasF n x) xs _ (h.good hG) (fun x _ w' ha => mHas1_e n cap hn q x B w' ?_)) ?_
  · obtain ⟨hp, hg⟩ := ha
    exact hg.cell (by rw [cell_of_block (hG.here _ mh)]; rfl) (by simp)
  refine run ?_
  refine fin1 ?_
  rw [← List.not_all_eq_any_not, Bool.not_not]
theorem mAsk_e (n cap : Nat) (hn : n < 4611686018427387904) (q : Option Addr) (xs : List Int) {w : World} {v : Value} (h : SlAt w v 1 (xs.map inV)) : Fn Tryz.prog 122 [.agg #[.slice q n cap], v].toArray w [] (fun u _ => u = .int .i64 (bif !memOk n then 1 else bif xs.all (hasF n) then 0 else 2)) := by
  have h' := h
  obtain ⟨qv, cv, rfl, _, _⟩ := h.opened
  refine enter Tryz.func122 ?_
  refine run ?_
  intro B
  refine run ?_
  refine callE (fun wc hG => mMay_e n cap hn q wc) ?_
  refine run ?_
  refine st_cond _ rfl (fun hc => ?_) (fun hc => ?_)
  · refine run ?_
    refine fin1 ?_
    rw [hc]; rfl
  · refine run ?_
    refine callE (fun wc hG => mHas_e n cap hn q xs ((Sees.old h').good hG)) ?_
    refine run ?_
    rw [hc, cond_false]
    refine st_cond _ rfl (fun hc2 => ?_) (fun hc2 => ?_)
    · refine run ?_
      refine fin1 ?_
      rw [show xs.all (hasF n) = false by simpa using hc2]; rfl
    · refine run ?_
      refine fin1 ?_
      rw [show xs.all (hasF n) = true by simpa using hc2]; rfl
theorem SlAt.cutS {w : World} {α : Type} {f : α → List Value} {xs : List α} {b o n cap sz i k c' : Nat} (h : SlAt w (.slice (some ⟨b, o, none⟩) n cap) sz (xs.map f)) (hk : i + k ≤ xs.length) : SlAt w (.slice (some ⟨b, o + i * sz, none⟩) k c') sz (((xs.drop i).take k).map f) := by
  obtain ⟨⟨q, c, e, hne⟩, hle⟩ := h
  injection e with e1 e2 e3
  subst e1 e3
  rw [List.length_map] at hle
  have hl : (((xs.drop i).take k).map f).length = k := by rw [List.length_map, List.length_take, List.length_drop]; omega
  refine ⟨⟨_, _, by rw [hl], fun hx => ?_⟩, by rw [hl]; omega⟩
  obtain ⟨b', off, e, hr⟩ := hne (by intro e; rw [List.map_eq_nil_iff] at e; rw [e] at hx; simp at hx)
  injection e with e
  injection e with e1 e2 _
  subst e1 e2
  refine ⟨b, o + i * sz, rfl, fun j cc hj => ?_⟩
  rw [List.map_take, List.map_drop, List.getElem?_take] at hj
  split at hj
  · rw [List.getElem?_drop] at hj
    have := hr (i + j) cc hj
    rwa [Nat.add_mul, ← Nat.add_assoc] at this
  · cases hj
theorem mOf_e (n cap f : Nat) (hf : f * 8 + 8 ≤ n) (hc : n ≤ cap) (hn : n < 1000000) (b o : Nat) (w : World) : Fn Tryz.prog 124 [.agg #[.slice (some ⟨b, o, none⟩) n cap], .int .i64 (f : Int)].toArray w [] (fun u _ => u = .slice (some ⟨b, o + f * 8, none⟩) 8 (cap - f * 8)) := by
  refine enter Tryz.func124 ?_
  refine run ?_
  intro B
  refine run ?_
  refine op1 (by rfl) (x_sliceLH tb_ok rfl rfl rfl (by rfl) (by omega) (by omega) (by omega) (by omega) (o' := o + f * 8) (by omega) (m' := 8) (by omega) (c' := cap - f * 8) (by omega)) ?_
  refine run ?_
  exact fin1 rfl
theorem mFrame_e (ws : List Nat) (cap : Nat) (hm : memOk ws.length = true) (f : Int) (hf : hasF ws.length f = true) (hc : ws.length ≤ cap) {w : World} {p : Option Addr} (h : SlAt w (.slice p ws.length cap) 1 (ws.map uV)) : Fn Tryz.prog 110 [.agg #[.slice p ws.length cap], .int .i64 f].toArray w [] (fun u hn => ∃ v hv, u = .tuple #[v, .int .i64 0] ∧ Own 130 1 v hv (((ws.drop (f.toNat * 8)).take 8).map uV) ∧ HpLe hv hn) := by
  have hmi := memOk_iff hm
  have hfi := hasF_iff hf
  have h' := h
  obtain ⟨q, c0, e, hne, _⟩ := h.opened
  injection e with e1 _ e3
  subst e1
  obtain ⟨b, o, rfl⟩ := hne (by intro e; rw [e] at hmi; simp at hmi)
  refine enter Tryz.func110 ?_
  refine run ?_
  intro B X
  refine callE (fun wc hG => mAsk_e ws.length cap (by omega) _ [f] (lie_rows (xs := [inV f]) (hG.here ⟨X, #[.int .i64 f], 3⟩ mh) (by simp [inV]) (by simp))) ?_
  rw [hm, show ([f] : List Int).all (hasF ws.length) = true by simp [hf]]
  refine runC ?_
  obtain ⟨k, rfl⟩ : ∃ k : Nat, f = (k : Int) := ⟨f.toNat, by omega⟩
  rw [Int.toNat_natCast] at hfi ⊢
  refine callE (fun wc hG => mOf_e ws.length cap k (by omega) hc (by omega) b o wc) ?_
  refine run ?_
  have hcs := fun {wc : World} (hG : SlAt wc (.slice (some ⟨b, o, none⟩) ws.length cap) 1 (ws.map uV)) => SlAt.cutS hG (i := k * 8) (k := 8) (c' := cap - k * 8) (by omega)
  rw [Nat.mul_one] at hcs
  refine callB (fun wc hG => cloneWords_e _ (((ws.drop (k * 8)).take 8).map uV) (hcs ((Sees.old h').good hG)) (fun c hc => by obtain ⟨x, _, rfl⟩ := List.mem_map.1 hc; exact ⟨rfl, rfl⟩) (by simp; omega)) ?_
  rintro v hv hO
  refine run ?_
  exact fin2 ⟨v, hv, rfl, hO, by (refine hpLe_cnt fun a => ?_; simp only [cntB_app, cntB_cons, cntB_nil]; omega)⟩
theorem pMay_e (r w x af ng : Bool) (soft acc : Int) (W : World) : Fn Tryz.prog 53 [.agg #[.bool r, .bool w, .bool x, .bool af, .bool ng, .int .i64 soft], .int .i64 acc].toArray W [] (fun u _ => u = .tuple #[.bool (mayA r w x acc), .int .i64 (bif PtD.btw acc 0 2 then 0 else 1)]) := by
  have hb : ∀ b0 b1 b2 : Bool, decide (acc = 0) = b0 → decide (acc = 1) = b1 → decide (acc = 2) = b2 → PtD.btw acc 0 2 = (b0 || b1 || b2) := by
    intro b0 b1 b2 h0 h1 h2
    subst h0 h1 h2
    unfold PtD.btw
    rw [Bool.eq_iff_iff]
    simp only [Bool.and_eq_true, Bool.or_eq_true, decide_eq_true_eq]
    omega
  refine enter Tryz.func53 ?_
  refine run ?_
  intro B
  refine st_cond _ rfl (fun hc => ?_) (fun hc => ?_)
  · refine run ?_
    refine fin2 ?_
    have : acc = 0 := of_decide_eq_true hc
    subst this
    simp [mayA, PtD.btw]
  refine run ?_
  refine st_cond _ rfl (fun hc2 => ?_) (fun hc2 => ?_)
  · refine run ?_
    refine fin2 ?_
    have : acc = 1 := of_decide_eq_true hc2
    subst this
    simp [mayA, PtD.btw]
  refine run ?_
  refine st_cond _ rfl (fun hc3 => ?_) (fun hc3 => ?_)
  · refine run ?_
    refine fin2 ?_
    have : acc = 2 := of_decide_eq_true hc3
    subst this
    simp [mayA, PtD.btw]
  refine run ?_
  refine fin2 ?_
  rw [hb _ _ _ hc hc2 hc3]
  simp only [mayA, hc, hc2, hc3]
  rfl
theorem pFlag_e (r w x af ng : Bool) (soft acc stage level page : Int) (ha : PtD.btw acc 0 2 = true) (W : World) : Fn Tryz.prog 105 [.agg #[.bool r, .bool w, .bool x, .bool af, .bool ng, .int .i64 soft], .int .i64 acc, .int .i64 stage, .int .i64 level, .int .i64 page].toArray W [] (fun u _ => u = .tuple #[ftV (flagL r w x af acc stage level page), .int .i64 0]) := by
  refine enter Tryz.func105 ?_
  refine run ?_
  intro B R
  refine run ?_
  refine callE (fun wc hG => pMay_e r w x af ng soft acc wc) ?_
  rw [ha]
  refine runC ?_
  intro F
  refine runC ?_
  refine st_cond _ rfl (fun hc => ?_) (fun hc => ?_)
  · refine run ?_
    refine finA1 (cs := #[.int .i64 3, .int .i64 stage, .int .i64 level, .bool false, .int .i64 page]) ?_
    simp only [flagL, hc, cond_true]
  refine run ?_
  refine st_cond _ rfl (fun hc2 => ?_) (fun hc2 => ?_)
  · refine run ?_
    refine finA1 (cs := #[.int .i64 0, .int .i64 0, .int .i64 0, .bool false, .int .i64 0]) ?_
    simp only [flagL, hc, hc2, cond_true, cond_false, Bool.not_true]
    rfl
  refine run ?_
  refine finA1 (cs := #[.int .i64 4, .int .i64 stage, .int .i64 level, .bool false, .int .i64 page]) ?_
  simp only [flagL, hc, hc2, cond_true, cond_false, Bool.not_false]
theorem pBoth_e (a b : AtD) (sa sb : Int) {w : World} {v : Value} (h : SlAt w v 6 ([(a, sa), (b, sb)].map atS)) : Fn Tryz.prog 103 [v].toArray w [] (fun u _ => u = .agg (atV (bothA a b)).toArray) := by
  obtain ⟨q, cap, rfl, hne, hle⟩ := h.opened
  obtain ⟨b0, o0, rfl⟩ := hne (by simp)
  rw [show ([(a, sa), (b, sb)] : List (AtD × Int)).length = 2 from rfl] at h ⊢
  have r0 := h.row (k := 0) (by decide : 0 < 2)
  have r1 := h.row (k := 1) (by decide : 1 < 2)
  refine enter Tryz.func103 ?_
  refine run ?_
  intro R X
  refine run ?_
  refine loopS (σ := Nat × AtD) (fun z => [(9, .int .i64 (z.1 : Int))]) (fun z => [⟨R, #[.bool false, .bool false, .bool false, .bool false, .bool false, .int .i64 0], 60⟩, ⟨X, #[.bool z.2.r, .bool z.2.w, .bool z.2.x, .bool z.2.af, .bool z.2.ng, .int .i64 0], 60⟩]) (fun z => z.1 = 0 ∧ z.2 = ⟨true, true, true, true, false⟩ ∨ z.1 = 1 ∧ z.2 = a ∨ z.1 = 2 ∧ z.2 = bothA a b) (fun z => 2 - z.1) (0, ⟨true, true, true, true, false⟩) (.inl ⟨rfl, rfl⟩) ?_
  rintro ⟨k, x⟩ m hm hk
  dsimp only at hm hk ⊢
  rcases hk with ⟨e0, rfl⟩ | ⟨e0, rfl⟩ | ⟨e0, rfl⟩
  · have hlt : k < 2 := by omega
    have hr : w.rangeAt b0 (o0 + k * 6) (atS (a, sa)) := by rw [e0]; exact r0
    refine run ?_
    refine st_cond _ rfl (fun hc => ?_) (fun hc => absurd hc (by simp; omega))
    refine runC ?_
    intro A
    refine runC ?_
    refine drawW 31 [⟨R, #[.bool false, .bool false, .bool false, .bool false, .bool false, .int .i64 0], 60⟩, ⟨A, #[.bool a.r, .bool a.w, .bool a.x, .bool a.af, .bool a.ng, .int .i64 sa], 60⟩] ?_
    refine runWG ?_
    refine run ?_
    exact nextS (k + 1, ⟨true && a.r, true && a.w, true && a.x, true && a.af, false || a.ng⟩) (.inr (.inl ⟨by dsimp only; omega, by simp⟩)) (hm := by dsimp only; omega) (h2 := by (refine hpLe_cnt fun a => ?_; simp only [cntB_app, cntB_cons, cntB_nil]; omega))
  · have hlt : k < 2 := by omega
    have hr : w.rangeAt b0 (o0 + k * 6) (atS (b, sb)) := by rw [e0]; exact r1
    refine run ?_
    refine st_cond _ rfl (fun hc => ?_) (fun hc => absurd hc (by simp; omega))
    refine runC ?_
    intro A
    refine runC ?_
    refine drawW 31 [⟨R, #[.bool false, .bool false, .bool false, .bool false, .bool false, .int .i64 0], 60⟩, ⟨A, #[.bool b.r, .bool b.w, .bool b.x, .bool b.af, .bool b.ng, .int .i64 sb], 60⟩] ?_
    refine runWG ?_
    refine run ?_
    exact nextS (k + 1, ⟨x.r && b.r, x.w && b.w, x.x && b.x, x.af && b.af, x.ng || b.ng⟩) (.inr (.inr ⟨by dsimp only; omega, rfl⟩)) (hm := by dsimp only; omega) (h2 := by (refine hpLe_cnt fun a => ?_; simp only [cntB_app, cntB_cons, cntB_nil]; omega))
  · refine run ?_
    refine st_cond _ rfl (fun hc => absurd hc (by simp; omega)) (fun hc => ?_)
    refine run ?_
    exact finA (cs := #[.bool (bothA a b).r, .bool (bothA a b).w, .bool (bothA a b).x, .bool (bothA a b).af, .bool (bothA a b).ng, .int .i64 0]) rfl
end Go.Proofs.YtdaenalnmdmflaaGreat
namespace Go.Proofs.YtdaenalnmdmflaaGreat
open Go.RowKit
set_option linter.unusedVariables false
set_option linter.unusedSimpArgs false
set_option maxRecDepth 20000
attribute [local irreducible] Hy St Ops DH DHF DE1 DE2 DE3 DS DCh DWF
theorem finAA2 {fn : Func} {R : Value → Hp → Prop} {l : Fm} {hp : Hp} {a t b a2 t2 b2 : Nat} {cs cs2 : Array Value} {tb tb2 : TypeId} (h : R (.tuple #[.agg cs, .agg cs2]) hp) (hr : fn.results = #[.cell a t, .cell a2 t2] := by rfl) (hv : look l a = some (.pointer (some ⟨b, 0, none⟩)) := by rfl) (hw : look l a2 = some (.pointer (some ⟨b2, 0, none⟩)) := by rfl) (hag : mem Tb.ag t = true := by rfl) (hm : (⟨b, cs, tb⟩ : Blk) ∈ hp := by (first | (with_reducible apply mh) | (focus ((repeat (first | (with_reducible apply mh) | (with_reducible apply mt) | (with_reducible apply List.mem_append_right))); done)))) (hz : lk Tb.sz t = some cs.size := by rfl) (hag2 : mem Tb.ag t2 = true := by rfl) (hm2 : (⟨b2, cs2, tb2⟩ : Blk) ∈ hp := by (first | (with_reducible apply mh) | (focus ((repeat (first | (with_reducible apply mh) | (with_reducible apply mt) | (with_reducible apply List.mem_append_right))); done)))) (hz2 : lk Tb.sz t2 = some cs2.size := by rfl) : Fin Tryz.prog fn R .ret l hp :=
  ⟨.inl rfl, [.agg cs, .agg cs2], by rw [hr]; exact ⟨⟨⟨b, cs, tb⟩, hm, hv, .inr ⟨tb_ok.gag hag, tb_ok.gsz hz, rfl⟩⟩, ⟨⟨b2, cs2, tb2⟩, hm2, hw, .inr ⟨tb_ok.gag hag2, tb_ok.gsz hz2, rfl⟩⟩, trivial⟩, h⟩
theorem wTable_e (ws : List Nat) (hw : W64 ws) (cap : Nat) (hm : memOk ws.length = true) (hc' : ws.length ≤ cap) {w : World} {p : Option Addr} (h : SlAt w (.slice p ws.length cap) 1 (ws.map uV)) (stage : Int) (hs : stage = 1 ∨ stage = 2) (level : Nat) (hl : level < 4) (f : Int) (hf : hasF ws.length f = true) (page : Nat) (hp : page ≤ 4095) : Fn Tryz.prog 89 [.agg #[.slice p ws.length cap], .int .i64 stage, .int .i64 (level : Int), .int .i64 f, .int .i64 (page : Int)].toArray w [] (fun u _ => u = .tuple #[dsV (dSt ws stage (atN f level page) level), .int .i64 0]) := by
  have hmi := memOk_iff hm
  have hfi := hasF_iff hf
  have h' := h
  obtain ⟨ez, hez⟩ : ∃ z : Int, z = 0 := ⟨0, rfl⟩
  have hdi : ∀ wc, Fn Tryz.prog 109 [.int .i64 (level : Int), .int .i64 (page : Int)].toArray wc [] (fun u _ => u = .tuple #[.int .i64 (indexN level page : Int), .int .i64 ez]) := fun wc => by rw [hez]; exact dIndex_e level hl page hp wc
  refine enter Tryz.func89 ?_
  refine run ?_
  intro B D
  refine run ?_
  refine callE (fun wc hG => hdi wc) ?_
  refine runG ?_
  refine callEG (fun _ wc hG => mCheck_e ws.length cap (by omega) p wc) ?_
  refine runG ?_
  refine st_cond _ rfl (fun hc => absurd hc (by rw [hm, hez]; rcases hs with rfl | rfl <;> simp [gv, wnt])) (fun hc => ?_)
  refine run ?_
  refine callB (fun wc hG => mFrame_e ws cap hm f hf hc' ((Sees.old h').good hG)) ?_
  rintro u1 hn1 ⟨v, hv, rfl, hO, hle⟩
  refine ops_le (hv ++ [⟨D, #[.int .i64 0, .int .i64 0, .bool false, .bool false, .bool false, .bool false, .bool false, .int .i64 0, .int .i64 0], 100⟩, ⟨B, #[.slice p ws.length cap], 24⟩]) (by (refine hpLe_cnt fun a => ?_; have := HpLe.cnt hle a; simp only [cntB_app, cntB_cons, cntB_nil] at *; omega)) ?_
  obtain ⟨g, cg, cur, rfl, rfl, hrow⟩ := hO.row (n := 8) (by simp; omega) (by decide)
  have hix := indexN_lt level page
  have hnth : nth cur.toList (indexN level page) = some (.int .u64 ((ws.getD (atN f level page) 0 : Nat) : Int)) := by
    have h1 := hrow.cut (i := indexN level page) (c := uV (ws.getD (atN f level page) 0)) (fun c hc => by obtain ⟨x, _, rfl⟩ := List.mem_map.1 hc; rfl) (by
      rw [List.getElem?_map, List.getElem?_take, if_pos (by omega), List.getElem?_drop, List.getElem?_eq_getElem (by omega)]
      simp only [Option.map_some, atN]
      rw [List.getD_eq_getElem?_getD, List.getElem?_eq_getElem (by omega)]
      rfl)
    have h2 := cut_nth h1 (j := 0) rfl
    simpa using h2
  simp only [List.cons_append, List.nil_append]
  refine runC ?_
  have hw64 : ws.getD (atN f level page) 0 < 18446744073709551616 := by
    rw [List.getD_eq_getElem?_getD]
    cases hq : ws[atN f level page]? with
    | none => simp
    | some x => exact hw x (List.mem_of_getElem? hq)
  refine callE (fun wc hG => dOf_e stage hs level hl _ hw64 wc) ?_
  rw [show ofL stage level (ws.getD (atN f level page) 0) = dSt ws stage (atN f level page) level from rfl]
  refine run ?_
  exact finA1 (cs := dsC (dSt ws stage (atN f level page) level)) rfl
theorem wFault_e (stage : Int) (page : Int) (kind level : Int) {w : World} {Wb : Nat} (hc1 : w.cell? ⟨Wb, 1, none⟩ = some (.int .i64 stage)) (hc2 : w.cell? ⟨Wb, 2, none⟩ = some (.int .i64 page)) : Fn Tryz.prog 130 [.pointer (some ⟨Wb, 0, none⟩), .int .i64 kind, .int .i64 level].toArray w [] (fun u _ => u = ftV ⟨kind, stage, level, false, page⟩) := by
  refine enter Tryz.func130 ?_
  refine run ?_
  intro R
  refine run ?_
  refine drawN 11 ?_
  refine runD ?_
  refine run ?_
  exact finA (cs := #[.int .i64 kind, .int .i64 stage, .int .i64 level, .bool false, .int .i64 page]) rfl
theorem wHas_e (n cap : Nat) (hn : n < 4611686018427387904) (q : Option Addr) (f : Int) {w : World} {Wb : Nat} (hc0 : w.cell? ⟨Wb, 0, none⟩ = some (.slice q n cap)) : Fn Tryz.prog 129 [.pointer (some ⟨Wb, 0, none⟩), .int .i64 f].toArray w [] (fun u _ => u = .bool (decide (f < ((n / 8 : Nat) : Int)))) := by
  refine enter Tryz.func129 ?_
  refine run ?_
  refine op1 (by rfl) (x_quoN rfl rfl n 8 (by rfl) (by rfl) (by decide) (by omega)) ?_
  refine run ?_
  exact fin1 rfl
theorem wLeaf_e (n cap : Nat) (hn : n < 1000000) (q : Option Addr) (stage : Int) (page level : Nat) (hl : level < 4) (hp : page ≤ 4095) (d : DsD) (hmay : d.may stage level = true) (hk2 : d.kind = 2) {w : World} {Wb : Nat} (hc0 : w.cell? ⟨Wb, 0, none⟩ = some (.slice q n cap)) (hc1 : w.cell? ⟨Wb, 1, none⟩ = some (.int .i64 stage)) (hc2 : w.cell? ⟨Wb, 2, none⟩ = some (.int .i64 (page : Int))) : Fn Tryz.prog 131 [.pointer (some ⟨Wb, 0, none⟩), dsV d, .int .i64 (level : Int)].toArray w [] (fun u _ => u = .tuple #[htV (endL n stage page level d []).h, ftV (endL n stage page level d []).f]) := by
  obtain ⟨hlf, hlf2⟩ := leaf_mid hmay hk2 hl page
  have hcv := dbits_lt hl
  have hmod := Nat.mod_lt page (show 0 < coversN level by omega)
  refine enter Tryz.func131 ?_
  refine run ?_
  intro D H F
  refine run ?_
  refine callE (fun wc hG => dCovers_e level hl wc) ?_
  refine run ?_
  refine drawAll ?_
  refine runD ?_
  refine opD (x_remN rfl rfl page (coversN level) rfl rfl (by omega)) ?_
  refine runD ?_
  refine run ?_
  have hmu : Wb ∉ ([] : List Nat) := List.not_mem_nil
  refine callE (fun wc hG => wHas_e n cap (by omega) q _ (hG.cell hc0 hmu)) ?_
  refine run ?_
  have hdh : decide (d.frame + ((page % coversN level : Nat) : Int) < ((n / 8 : Nat) : Int)) = hasF n (d.frame + ((page % coversN level : Nat) : Int)) := by
    rw [hasF, show decide (0 ≤ d.frame + ((page % coversN level : Nat) : Int)) = true from decide_eq_true (by omega), Bool.true_and]
  rw [endL, show decide (d.kind = 0) = false from decide_eq_false (by omega), cond_false, ← hdh]
  refine st_cond _ rfl (fun hc => ?_) (fun hc => ?_)
  · rw [show decide (d.frame + ((page % coversN level : Nat) : Int) < ((n / 8 : Nat) : Int)) = false by simpa using hc]
    refine run ?_
    refine callE (fun wc hG => wFault_e stage page 1 level (hG.cell hc1 hmu) (hG.cell hc2 hmu)) ?_
    refine run ?_
    exact finAA2 (cs := #[.int .i64 0, .int .i64 0, .bool false, .bool false, .bool false, .bool false, .bool false, .int .i64 0, .int .i64 0]) (cs2 := #[.int .i64 1, .int .i64 stage, .int .i64 level, .bool false, .int .i64 page]) rfl
  · rw [show decide (d.frame + ((page % coversN level : Nat) : Int) < ((n / 8 : Nat) : Int)) = true by simpa using hc]
    refine run ?_
    exact finAA2 (cs := #[.int .i64 (d.frame + ((page % coversN level : Nat) : Int)), .int .i64 0, .bool d.r, .bool d.w, .bool d.x, .bool d.af, .bool d.ng, .int .i64 d.soft, .int .i64 (level : Int)]) (cs2 := #[.int .i64 0, .int .i64 0, .int .i64 0, .bool false, .int .i64 0]) rfl
theorem endL_rd (n : Nat) (stage : Int) (page level : Nat) (d : DsD) (rd : List Int) : endL n stage page level d rd = ⟨(endL n stage page level d []).h, (endL n stage page level d []).f, rd⟩ := by
  unfold endL
  cases decide (d.kind = 0) <;> cases hasF n (d.frame + ((page % coversN level : Nat) : Int)) <;> rfl
theorem wFrom_e (ws : List Nat) (hw : W64 ws) (cap : Nat) (hmm : memOk ws.length = true) (hcc : ws.length ≤ cap) {p : Option Addr} (stage : Int) (hs : stage = 1 ∨ stage = 2) (frame : Int) (h0 : 0 ≤ frame) (page : Nat) (hp : page ≤ 4095) {w : World} {Wb : Nat}
    (hm : Sees w [Wb] (.slice p ws.length cap) 1 (ws.map uV)) (hN : HereN [⟨Wb, #[.slice p ws.length cap, .int .i64 stage, .int .i64 (page : Int), .slice none 0 0], 178⟩] w) :
    Fn Tryz.prog 119 [.pointer (some ⟨Wb, 0, none⟩), .int .i64 frame].toArray w [Wb] (fun u hn => ∃ rv' hr', u = .tuple #[htV (walk5 ws stage frame page).h, ftV (walk5 ws stage frame page).f] ∧ Own 3 1 rv' hr' ((walk5 ws stage frame page).rd.map inV) ∧ HpLe (⟨Wb, #[.slice p ws.length cap, .int .i64 stage, .int .i64 (page : Int), rv'], 178⟩ :: hr') hn) := by
  have hm' := hm
  refine enterM _ hN Tryz.func119 ?_
  refine run ?_
  intro H F
  refine run ?_
  refine loopS (σ := Nat × Int × Value × Hp × List Int) (fun z => [(9, .int .i64 (z.1 : Int)), (1, .int .i64 z.2.1)]) (fun z => ⟨F, #[.int .i64 0, .int .i64 0, .int .i64 0, .bool false, .int .i64 0], 44⟩ :: ⟨H, #[.int .i64 0, .int .i64 0, .bool false, .bool false, .bool false, .bool false, .bool false, .int .i64 0, .int .i64 0], 62⟩ :: ⟨Wb, #[.slice p ws.length cap, .int .i64 stage, .int .i64 (page : Int), z.2.2.1], 178⟩ :: z.2.2.2.1) (fun z => z.1 < 4 ∧ 0 ≤ z.2.1 ∧ z.2.2.2.2.length = z.1 ∧ wlk ws stage page (4 - z.1) z.1 z.2.1 z.2.2.2.2 = walk5 ws stage frame page ∧ Own 3 1 z.2.2.1 z.2.2.2.1 (z.2.2.2.2.map inV)) (fun z => 4 - z.1) (0, frame, _, [], []) ⟨Nat.zero_lt_succ _, h0, rfl, rfl, Own.nil _ _⟩ ?_
  rintro ⟨level, f, rv, hr, rd⟩ m hm ⟨hl, hf0, hrd, hwk, hO⟩
  dsimp only at hm hl hf0 hrd hwk hO ⊢
  generalize walk5 ws stage frame page = X at hwk ⊢
  have hmi := memOk_iff hmm
  refine run ?_
  refine st_cond _ rfl (fun hc => ?_) (fun hc => absurd hc (by simp; omega))
  refine run ?_
  refine callE (fun wc hG => wHas_e ws.length cap (by omega) p _ (by rw [cell_of_block (hG.here ⟨Wb, #[.slice p ws.length cap, .int .i64 stage, .int .i64 (page : Int), rv], 178⟩ (by simp))]; rfl)) ?_
  refine run ?_
  rw [show 4 - level = (3 - level) + 1 by omega, wlk] at hwk
  have e5 : decide (f < ((ws.length / 8 : Nat) : Int)) = hasF ws.length f := by
    rw [hasF, show decide (0 ≤ f) = true from decide_eq_true hf0, Bool.true_and]
  rw [e5]
  refine st_cond _ rfl (fun hc => ?_) (fun hc => ?_)
  · have hh : hasF ws.length f = false := by simpa using hc
    rw [hh, cond_false] at hwk
    rw [← hwk]
    refine run ?_
    refine callE (fun wc hG => wFault_e stage page 1 level (by rw [cell_of_block (hG.here ⟨Wb, #[.slice p ws.length cap, .int .i64 stage, .int .i64 (page : Int), rv], 178⟩ (by simp))]; rfl) (by rw [cell_of_block (hG.here ⟨Wb, #[.slice p ws.length cap, .int .i64 stage, .int .i64 (page : Int), rv], 178⟩ (by simp))]; rfl)) ?_
    refine run ?_
    exact finAA2 (cs := #[.int .i64 0, .int .i64 0, .bool false, .bool false, .bool false, .bool false, .bool false, .int .i64 0, .int .i64 0]) (cs2 := #[.int .i64 1, .int .i64 stage, .int .i64 level, .bool false, .int .i64 page]) ⟨rv, hr, rfl, hO, by (refine hpLe_cnt fun a => ?_; simp only [cntB_app, cntB_cons, cntB_nil]; omega)⟩
  have hh : hasF ws.length f = true := by simpa using hc
  rw [hh, cond_true] at hwk
  refine run ?_
  intro T
  refine appendW (c := inV f) (⟨T, #[.int .i64 f], 3⟩ :: ⟨F, #[.int .i64 0, .int .i64 0, .int .i64 0, .bool false, .int .i64 0], 44⟩ :: ⟨H, #[.int .i64 0, .int .i64 0, .bool false, .bool false, .bool false, .bool false, .bool false, .int .i64 0, .int .i64 0], 62⟩ :: [⟨Wb, #[.slice p ws.length cap, .int .i64 stage, .int .i64 (page : Int), rv], 178⟩]) hO (fun v' ha' hA' => ?_) (by simp; omega) (news_own (m := 1) mh rfl) (hperm := by (refine perm_cnt fun a => ?_; simp only [cntB_app, cntB_cons, cntB_nil]; omega))
  rw [show rd.map inV ++ [inV f] = (rd ++ [f]).map inV by simp] at hA'
  obtain ⟨q4, c4, e4⟩ := hA'.opened
  rw [List.length_map] at e4
  subst e4
  refine ops_le (⟨F, #[.int .i64 0, .int .i64 0, .int .i64 0, .bool false, .int .i64 0], 44⟩ :: ⟨H, #[.int .i64 0, .int .i64 0, .bool false, .bool false, .bool false, .bool false, .bool false, .int .i64 0, .int .i64 0], 62⟩ :: ⟨Wb, #[.slice p ws.length cap, .int .i64 stage, .int .i64 (page : Int), rv], 178⟩ :: ha') (by (refine hpLe_cnt fun a => ?_; simp only [cntB_app, cntB_cons, cntB_nil]; omega)) ?_
  refine run ?_
  refine drawEC 20 19 [0, 1, 2, 3, 4, 5, 6, 7, 8, 9, 10, 11, 12, 13, 14, 15, 16, 17] [18] [19] (⟨Wb, #[.slice p ws.length cap, .int .i64 stage, .int .i64 (page : Int), .slice q4 (rd ++ [f]).length c4], 178⟩ :: ⟨F, #[.int .i64 0, .int .i64 0, .int .i64 0, .bool false, .int .i64 0], 44⟩ :: ⟨H, #[.int .i64 0, .int .i64 0, .bool false, .bool false, .bool false, .bool false, .bool false, .int .i64 0, .int .i64 0], 62⟩ :: ha') ?_
  refine runZ ?_
  refine sCallA (fun wc hx hG => wTable_e ws hw cap hmm hcc (hm'.good hG) stage hs level hl f hh page hp) ?_
  refine runZ ?_
  have hmay := dSt_may ws stage (atN f level page) level
  generalize dSt ws stage (atN f level page) level = d at hwk hmay ⊢
  obtain ⟨hkk, hk0, hk1, hk2⟩ := may_kinds hmay
  refine eAlloc ?_
  refine eNil ?_
  rintro _ _ ⟨D, rfl, rfl⟩
  simp only [DN, List.cons_append, List.nil_append, List.append_nil]
  refine cStore (b := D) (tb := 100) (cs := #[.int .i64 0, .int .i64 0, .bool false, .bool false, .bool false, .bool false, .bool false, .int .i64 0, .int .i64 0]) (cs' := dsC d) (hp' := ⟨Wb, #[.slice p ws.length cap, .int .i64 stage, .int .i64 (page : Int), .slice q4 (rd ++ [f]).length c4], 178⟩ :: ⟨F, #[.int .i64 0, .int .i64 0, .int .i64 0, .bool false, .int .i64 0], 44⟩ :: ⟨H, #[.int .i64 0, .int .i64 0, .bool false, .bool false, .bool false, .bool false, .bool false, .int .i64 0, .int .i64 0], 62⟩ :: ha') ?_ (List.Perm.refl _)
  refine dc_nil ?_
  refine opsC ?_
  simp only [dsC]
  refine run ?_
  refine st_cond _ rfl (fun hc2 => ?_) (fun hc2 => ?_)
  · have e0 : d.kind = 0 := of_decide_eq_true hc2
    rw [show decide (d.kind = 1) = false from decide_eq_false (by omega), cond_false, endL, hc2, cond_true] at hwk
    rw [← hwk]
    refine run ?_
    refine callE (fun wc hG => wFault_e stage page 2 level (by rw [cell_of_block (hG.here ⟨Wb, #[.slice p ws.length cap, .int .i64 stage, .int .i64 (page : Int), .slice q4 (rd ++ [f]).length c4], 178⟩ (by simp))]; rfl) (by rw [cell_of_block (hG.here ⟨Wb, #[.slice p ws.length cap, .int .i64 stage, .int .i64 (page : Int), .slice q4 (rd ++ [f]).length c4], 178⟩ (by simp))]; rfl)) ?_
    refine run ?_
    exact finAA2 (cs := #[.int .i64 0, .int .i64 0, .bool false, .bool false, .bool false, .bool false, .bool false, .int .i64 0, .int .i64 0]) (cs2 := #[.int .i64 2, .int .i64 stage, .int .i64 level, .bool false, .int .i64 page]) ⟨_, ha', rfl, hA', by (refine hpLe_cnt fun a => ?_; simp only [cntB_app, cntB_cons, cntB_nil]; omega)⟩
  refine run ?_
  refine st_cond _ rfl (fun hc3 => ?_) (fun hc3 => ?_)
  · have e2 : d.kind = 2 := of_decide_eq_true hc3
    rw [show decide (d.kind = 1) = false from decide_eq_false (by omega), cond_false, endL_rd] at hwk
    rw [← hwk]
    refine run ?_
    refine callE (fun wc hG => wLeaf_e ws.length cap (by omega) p stage page level hl hp d hmay e2 (by rw [cell_of_block (hG.here ⟨Wb, #[.slice p ws.length cap, .int .i64 stage, .int .i64 (page : Int), .slice q4 (rd ++ [f]).length c4], 178⟩ (by simp))]; rfl) (by rw [cell_of_block (hG.here ⟨Wb, #[.slice p ws.length cap, .int .i64 stage, .int .i64 (page : Int), .slice q4 (rd ++ [f]).length c4], 178⟩ (by simp))]; rfl) (by rw [cell_of_block (hG.here ⟨Wb, #[.slice p ws.length cap, .int .i64 stage, .int .i64 (page : Int), .slice q4 (rd ++ [f]).length c4], 178⟩ (by simp))]; rfl)) ?_
    generalize endL ws.length stage page level d [] = Z
    refine run ?_
    exact finAA2 (cs := #[.int .i64 Z.h.frame, .int .i64 Z.h.mid, .bool Z.h.r, .bool Z.h.w, .bool Z.h.x, .bool Z.h.af, .bool Z.h.ng, .int .i64 Z.h.soft, .int .i64 Z.h.level]) (cs2 := #[.int .i64 Z.f.kind, .int .i64 Z.f.stage, .int .i64 Z.f.level, .bool Z.f.walk, .int .i64 Z.f.page]) ⟨_, ha', rfl, hA', by (refine hpLe_cnt fun a => ?_; simp only [cntB_app, cntB_cons, cntB_nil]; omega)⟩
  refine run ?_
  have e1 : d.kind = 1 := by
    have h2 := of_decide_eq_false hc2
    have h3 := of_decide_eq_false hc3
    omega
  obtain ⟨k1, k2, k3, k4⟩ := hk1 e1
  rw [show decide (d.kind = 1) = true from decide_eq_true e1, cond_true] at hwk
  refine nextS (level + 1, d.frame, .slice q4 (rd ++ [f]).length c4, ha', rd ++ [f]) ⟨by dsimp only; omega, k2, by simp [hrd], by rw [← hwk, show 4 - (level + 1) = 3 - level by omega], hA'⟩ (hm := by dsimp only; omega) (h2 := by (refine hpLe_cnt fun a => ?_; simp only [cntB_app, cntB_cons, cntB_nil]; omega))
end Go.Proofs.YtdaenalnmdmflaaGreat
