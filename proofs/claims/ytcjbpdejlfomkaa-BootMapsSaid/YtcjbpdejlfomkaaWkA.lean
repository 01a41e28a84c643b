/- Layers 5, 6, 7 (walk, perm, nest): plain; the document's. -/
import Derived.Test.YtcjbpdejlfomkaaPgC
namespace Go.Proofs.Ytcjbpdejlfomkaa
open Go.RowKit
set_option linter.unusedVariables false
set_option linter.unusedSimpArgs false
set_option maxRecDepth 20000
attribute [local irreducible] Hy St Ops DH DHF
/-- Where a page leads. -/
structure HtD where
  frame : Int
  mid : Int
  r : Bool
  w : Bool
  x : Bool
  af : Bool
  ng : Bool
  soft : Int
  level : Int
deriving DecidableEq
def noHt : HtD := ⟨0, 0, false, false, false, false, false, 0, 0⟩
instance : Inhabited HtD := ⟨noHt⟩
abbrev htR (h : HtD) : List Value := [.int .i64 h.frame, .int .i64 h.mid, .bool h.r, .bool h.w, .bool h.x, .bool h.af, .bool h.ng, .int .i64 h.soft, .int .i64 h.level]
abbrev htV (h : HtD) : Value := .agg #[.int .i64 h.frame, .int .i64 h.mid, .bool h.r, .bool h.w, .bool h.x, .bool h.af, .bool h.ng, .int .i64 h.soft, .int .i64 h.level]
/-- Why it does not. -/
structure FtD where
  kind : Int
  stage : Int
  level : Int
  walk : Bool
  page : Int
deriving DecidableEq
def noFt : FtD := ⟨0, 0, 0, false, 0⟩
instance : Inhabited FtD := ⟨noFt⟩
abbrev ftR (f : FtD) : List Value := [.int .i64 f.kind, .int .i64 f.stage, .int .i64 f.level, .bool f.walk, .int .i64 f.page]
abbrev ftV (f : FtD) : Value := .agg #[.int .i64 f.kind, .int .i64 f.stage, .int .i64 f.level, .bool f.walk, .int .i64 f.page]
def mayA (r w x : Bool) (acc : Int) : Bool := decide (acc = 0) && r || decide (acc = 1) && w || decide (acc = 2) && x
def flagL (r w x af : Bool) (acc stage level page : Int) : FtD := bif !af then ⟨3, stage, level, false, page⟩ else bif !mayA r w x acc then ⟨4, stage, level, false, page⟩ else noFt
structure WlD where
  h : HtD
  f : FtD
  rd : List Int
deriving Inhabited
def dSt (ws : List Nat) (stage : Int) (p level : Nat) : DsD := ofL stage level (ws.getD p 0)
theorem dSt_may (ws : List Nat) (stage : Int) (p level : Nat) : (dSt ws stage p level).may stage level = true := ofL_may _ _ _
/-- What comes of a descriptor that is no table. -/
def endL (n : Nat) (stage : Int) (page level : Nat) (d : DsD) (rd : List Int) : WlD :=
  bif decide (d.kind = 0) then ⟨noHt, ⟨2, stage, level, false, page⟩, rd⟩
  else bif hasF n (d.frame + ((page % coversN level : Nat) : Int)) then ⟨⟨d.frame + ((page % coversN level : Nat) : Int), 0, d.r, d.w, d.x, d.af, d.ng, d.soft, level⟩, noFt, rd⟩
  else ⟨noHt, ⟨1, stage, level, false, page⟩, rd⟩
def wlk (ws : List Nat) (stage : Int) (page : Nat) : Nat → Nat → Int → List Int → WlD
  | 0, level, f, rd => ⟨noHt, ⟨2, stage, 3, false, page⟩, rd⟩
  | k + 1, level, f, rd => bif hasF ws.length f then
      (bif decide ((dSt ws stage (atN f level page) level).kind = 1) then wlk ws stage page k (level + 1) (dSt ws stage (atN f level page) level).frame (rd ++ [f])
       else endL ws.length stage page level (dSt ws stage (atN f level page) level) (rd ++ [f]))
    else ⟨noHt, ⟨1, stage, level, false, page⟩, rd⟩
def walk5 (ws : List Nat) (stage frame : Int) (page : Nat) : WlD := wlk ws stage page 4 0 frame []
/-- Stage 2 alone. -/
def midG (W : WlD) (mid : Nat) (acc : Int) : FtD := bif decide (W.f.kind = 0) then flagL W.h.r W.h.w W.h.x W.h.af acc 2 W.h.level mid else W.f
def midE (W : WlD) (mid : Nat) (acc : Int) : WlD := bif !decide ((midG W mid acc).kind = 0) then ⟨noHt, midG W mid acc, W.rd⟩ else ⟨{ W.h with mid := mid }, midG W mid acc, W.rd⟩
def midL (ws : List Nat) (on : Bool) (frame : Int) (mid : Nat) (acc : Int) : WlD :=
  bif !on then (bif hasF ws.length mid then ⟨⟨mid, mid, true, true, true, true, false, 0, 0⟩, noFt, []⟩ else ⟨noHt, ⟨1, 2, 0, false, mid⟩, []⟩)
  else midE (walk5 ws 2 frame mid) mid acc
theorem rMayA_e (r w x af ng : Bool) (soft acc : Int) (W : World) : Fn Try.prog 120 [.agg #[.bool r, .bool w, .bool x, .bool af, .bool ng, .int .i64 soft], .int .i64 acc].toArray W [] (fun u _ => u = .bool (mayA r w x acc)) := by
  refine enter Try.func120 ?_
  refine runG ?_
  intro B
  refine fin1 ?_
  simp only [mayA]
theorem rFlag_e (r w x af ng : Bool) (soft acc stage level page : Int) (W : World) : Fn Try.prog 78 [.agg #[.bool r, .bool w, .bool x, .bool af, .bool ng, .int .i64 soft], .int .i64 acc, .int .i64 stage, .int .i64 level, .int .i64 page].toArray W [] (fun u _ => u = ftV (flagL r w x af acc stage level page)) := by
  refine enter Try.func78 ?_
  refine run ?_
  intro B C D
  refine st_cond _ rfl (fun hc => ?_) (fun hc => ?_)
  · refine run ?_
    refine finA ?_
    simp only [flagL, hc, cond_true]
  refine run ?_
  refine callE (fun wc hG => rMayA_e r w x af ng soft acc wc) ?_
  refine run ?_
  refine st_cond _ rfl (fun hc2 => ?_) (fun hc2 => ?_)
  · refine run ?_
    refine finA ?_
    simp only [flagL, hc, hc2, cond_true, cond_false]
  refine run ?_
  refine finA ?_
  simp only [flagL, hc, hc2, cond_true, cond_false]
  rfl
theorem rWalk_e (ws : List Nat) (hw : W64 ws) {w : World} {v : Value} (h : SlAt w v 1 (ws.map uV)) (hn : ws.length < 1000000) (stage : Int) (hs : stage = 1 ∨ stage = 2) (frame : Int) (h0 : 0 ≤ frame) (page : Nat) (hp : page ≤ 4095) : Fn Try.prog 77 [.agg #[v], .int .i64 stage, .int .i64 frame, .int .i64 (page : Int)].toArray w [] (fun u hn => ∃ v2 h2, u = .tuple #[htV (walk5 ws stage frame page).h, ftV (walk5 ws stage frame page).f, v2] ∧ Own 3 1 v2 h2 ((walk5 ws stage frame page).rd.map inV) ∧ HpLe h2 hn) := by
  obtain ⟨q, cap, rfl, hne, hle⟩ := h.opened
  refine enter Try.func77 ?_
  refine run ?_
  intro B C D E
  have e4 : ∀ f : Int, 0 ≤ f → decide (f ≥ ((ws.length / 8 : Nat) : Int)) = !hasF ws.length f := fun f hf => by
    rw [Bool.eq_iff_iff]; simp [hasF]; omega
  refine loopS (σ := Nat × Int × Value × Hp × List Int × Int) (fun s => [(13, .int .i64 (s.1 : Int)), (2, .int .i64 s.2.1), (11, s.2.2.1)]) (fun s => ⟨E, #[.int .i64 0, .int .i64 stage, .int .i64 s.2.2.2.2.2, .bool false, .int .i64 (page : Int)], 87⟩ :: ⟨D, #[.int .i64 0, .int .i64 0, .int .i64 0, .bool false, .int .i64 0], 87⟩ :: ⟨C, #[.int .i64 0, .int .i64 0, .bool false, .bool false, .bool false, .bool false, .bool false, .int .i64 0, .int .i64 0], 85⟩ :: ⟨B, #[.slice q ws.length cap], 24⟩ :: s.2.2.2.1) (fun s => s.1 < 4 ∧ 0 ≤ s.2.1 ∧ s.2.2.2.2.1.length = s.1 ∧ wlk ws stage page (4 - s.1) s.1 s.2.1 s.2.2.2.2.1 = walk5 ws stage frame page ∧ Acc 3 1 s.2.2.1 s.2.2.2.1 (s.2.2.2.2.1.map inV)) (fun s => 4 - s.1) (0, frame, .slice none 0 0, [], [], 0) ⟨(by decide : 0 < 4), h0, rfl, rfl, Acc.nil _ _⟩ ?_ (hh := by exact HpLe.refl _)
  rintro ⟨level, f, v2, ha, rd, lv⟩ m hm ⟨hl, hf0, hrd, hwk, hA⟩
  dsimp only at hm hl hf0 hrd hwk hA ⊢
  obtain ⟨q2, cap2, rfl⟩ := hA.own.opened
  refine run ?_
  refine st_cond _ rfl (fun hc => ?_) (fun hc => absurd hc (by simp; omega))
  refine run ?_
  refine callE (fun wc hG => rFrames_e ws.length cap (by omega) q wc) ?_
  refine run ?_
  have h4 : 4 - level = (3 - level) + 1 := by omega
  rw [h4, wlk] at hwk
  have e5 := e4 f hf0
  refine st_cond _ rfl (fun hc => ?_) (fun hc => ?_)
  · have hh : hasF ws.length f = false := by simpa using e5.symm.trans hc
    rw [hh, cond_false] at hwk
    rw [← hwk]
    refine run ?_
    refine drawC 5 3 [0, 1, 2] [3, 4] (⟨E, #[.int .i64 1, .int .i64 stage, .int .i64 (level : Int), .bool false, .int .i64 (page : Int)], 87⟩ :: ⟨B, #[.slice q ws.length cap], 24⟩ :: ha) ?_
    refine runZ ?_
    refine cStore (b := C) (tb := 85) (cs := #[.int .i64 0, .int .i64 0, .bool false, .bool false, .bool false, .bool false, .bool false, .int .i64 0, .int .i64 0]) (cs' := #[.int .i64 0, .int .i64 0, .bool false, .bool false, .bool false, .bool false, .bool false, .int .i64 0, .int .i64 0]) (hp' := ⟨E, #[.int .i64 1, .int .i64 stage, .int .i64 (level : Int), .bool false, .int .i64 (page : Int)], 87⟩ :: ⟨D, #[.int .i64 0, .int .i64 0, .int .i64 0, .bool false, .int .i64 0], 87⟩ :: ⟨B, #[.slice q ws.length cap], 24⟩ :: ha) ?_ (by (refine perm_cnt fun a => ?_; simp only [cntB_app, cntB_cons, cntB_nil]; omega))
    refine cStore (b := D) (tb := 87) (cs := #[.int .i64 0, .int .i64 0, .int .i64 0, .bool false, .int .i64 0]) (cs' := #[.int .i64 1, .int .i64 stage, .int .i64 (level : Int), .bool false, .int .i64 (page : Int)]) (hp' := ⟨C, #[.int .i64 0, .int .i64 0, .bool false, .bool false, .bool false, .bool false, .bool false, .int .i64 0, .int .i64 0], 85⟩ :: ⟨E, #[.int .i64 1, .int .i64 stage, .int .i64 (level : Int), .bool false, .int .i64 (page : Int)], 87⟩ :: ⟨B, #[.slice q ws.length cap], 24⟩ :: ha) ?_ (by (refine perm_cnt fun a => ?_; simp only [cntB_app, cntB_cons, cntB_nil]; omega))
    refine dc_nil ?_
    refine opsC ?_
    refine run ?_
    exact finAA (cs := #[.int .i64 0, .int .i64 0, .bool false, .bool false, .bool false, .bool false, .bool false, .int .i64 0, .int .i64 0]) (cs2 := #[.int .i64 1, .int .i64 stage, .int .i64 (level : Int), .bool false, .int .i64 (page : Int)]) ⟨_, ha, rfl, hA.own, by (refine hpLe_cnt fun a => ?_; simp only [cntB_app, cntB_cons, cntB_nil]; omega)⟩
  · have hh : hasF ws.length f = true := by simpa using e5.symm.trans hc
    rw [hh, cond_true] at hwk
    refine run ?_
    intro T
    refine appendA (c := inV f) (hp' := ⟨T, #[.int .i64 f], 3⟩ :: ⟨E, #[.int .i64 0, .int .i64 stage, .int .i64 (level : Int), .bool false, .int .i64 (page : Int)], 87⟩ :: ⟨D, #[.int .i64 0, .int .i64 0, .int .i64 0, .bool false, .int .i64 0], 87⟩ :: ⟨C, #[.int .i64 0, .int .i64 0, .bool false, .bool false, .bool false, .bool false, .bool false, .int .i64 0, .int .i64 0], 85⟩ :: [⟨B, #[.slice q ws.length cap], 24⟩]) hA (fun v' ha' hA' => ?_) (by simp; omega) (news_own (m := 1) mh rfl) (hperm := by (refine perm_cnt fun a => ?_; simp only [cntB_app, cntB_cons, cntB_nil]; omega))
    rw [show rd.map inV ++ [inV f] = (rd ++ [f]).map inV by simp] at hA'
    obtain ⟨q3, cap3, rfl⟩ := hA'.own.opened
    refine ops_le (⟨E, #[.int .i64 0, .int .i64 stage, .int .i64 (level : Int), .bool false, .int .i64 (page : Int)], 87⟩ :: ⟨D, #[.int .i64 0, .int .i64 0, .int .i64 0, .bool false, .int .i64 0], 87⟩ :: ⟨C, #[.int .i64 0, .int .i64 0, .bool false, .bool false, .bool false, .bool false, .bool false, .int .i64 0, .int .i64 0], 85⟩ :: ⟨B, #[.slice q ws.length cap], 24⟩ :: ha') (by (refine hpLe_cnt fun a => ?_; simp only [cntB_app, cntB_cons, cntB_nil]; omega)) ?_
    refine run ?_
    refine callE (fun wc hG => rTable_e ws hw (h.good hG) stage hs level hl f hh page hp hn) ?_
    rw [show ofL stage level (ws.getD (atN f level page) 0) = dSt ws stage (atN f level page) level from rfl]
    have hmay := dSt_may ws stage (atN f level page) level
    generalize dSt ws stage (atN f level page) level = d at hwk hmay
    obtain ⟨hkk, hk0, hk1, hk2⟩ := may_kinds hmay
    refine run ?_
    intro X
    refine run ?_
    refine st_cond _ rfl (fun hc2 => ?_) (fun hc2 => ?_)
    · have hd1 : d.kind = 1 := by simpa using hc2
      obtain ⟨k1, k2, k3, k4⟩ := hk1 hd1
      rw [hc2, cond_true] at hwk
      refine run ?_
      refine nextS (level + 1, d.frame, .slice q3 ((rd ++ [f]).map inV).length cap3, ha', rd ++ [f], (level : Int)) ⟨by dsimp only; omega, k2, by simp [hrd], by rw [← hwk, show 4 - (level + 1) = 3 - level by omega], hA'⟩ (hm := by dsimp only; omega) (h2 := by (refine hpLe_cnt fun a => ?_; simp only [cntB_app, cntB_cons, cntB_nil]; omega))
    rw [hc2, cond_false] at hwk
    refine run ?_
    refine st_cond _ rfl (fun hc3 => ?_) (fun hc3 => ?_)
    · rw [endL, hc3, cond_true] at hwk
      rw [← hwk]
      refine run ?_
      refine drawC 5 3 [0, 1, 2] [3, 4] (⟨E, #[.int .i64 2, .int .i64 stage, .int .i64 (level : Int), .bool false, .int .i64 (page : Int)], 87⟩ :: ⟨X, #[.int .i64 d.kind, .int .i64 d.frame, .bool d.r, .bool d.w, .bool d.x, .bool d.af, .bool d.ng, .int .i64 d.soft, .int .i64 d.note], 38⟩ :: ⟨B, #[.slice q ws.length cap], 24⟩ :: ha') ?_
      refine runZ ?_
      refine cStore (b := C) (tb := 85) (cs := #[.int .i64 0, .int .i64 0, .bool false, .bool false, .bool false, .bool false, .bool false, .int .i64 0, .int .i64 0]) (cs' := #[.int .i64 0, .int .i64 0, .bool false, .bool false, .bool false, .bool false, .bool false, .int .i64 0, .int .i64 0]) (hp' := ⟨E, #[.int .i64 2, .int .i64 stage, .int .i64 (level : Int), .bool false, .int .i64 (page : Int)], 87⟩ :: ⟨D, #[.int .i64 0, .int .i64 0, .int .i64 0, .bool false, .int .i64 0], 87⟩ :: ⟨X, #[.int .i64 d.kind, .int .i64 d.frame, .bool d.r, .bool d.w, .bool d.x, .bool d.af, .bool d.ng, .int .i64 d.soft, .int .i64 d.note], 38⟩ :: ⟨B, #[.slice q ws.length cap], 24⟩ :: ha') ?_ (by (refine perm_cnt fun a => ?_; simp only [cntB_app, cntB_cons, cntB_nil]; omega))
      refine cStore (b := D) (tb := 87) (cs := #[.int .i64 0, .int .i64 0, .int .i64 0, .bool false, .int .i64 0]) (cs' := #[.int .i64 2, .int .i64 stage, .int .i64 (level : Int), .bool false, .int .i64 (page : Int)]) (hp' := ⟨C, #[.int .i64 0, .int .i64 0, .bool false, .bool false, .bool false, .bool false, .bool false, .int .i64 0, .int .i64 0], 85⟩ :: ⟨E, #[.int .i64 2, .int .i64 stage, .int .i64 (level : Int), .bool false, .int .i64 (page : Int)], 87⟩ :: ⟨X, #[.int .i64 d.kind, .int .i64 d.frame, .bool d.r, .bool d.w, .bool d.x, .bool d.af, .bool d.ng, .int .i64 d.soft, .int .i64 d.note], 38⟩ :: ⟨B, #[.slice q ws.length cap], 24⟩ :: ha') ?_ (by (refine perm_cnt fun a => ?_; simp only [cntB_app, cntB_cons, cntB_nil]; omega))
      refine dc_nil ?_
      refine opsC ?_
      refine run ?_
      exact finAA (cs := #[.int .i64 0, .int .i64 0, .bool false, .bool false, .bool false, .bool false, .bool false, .int .i64 0, .int .i64 0]) (cs2 := #[.int .i64 2, .int .i64 stage, .int .i64 (level : Int), .bool false, .int .i64 (page : Int)]) ⟨_, ha', rfl, hA'.own, by (refine hpLe_cnt fun a => ?_; simp only [cntB_app, cntB_cons, cntB_nil]; omega)⟩
    have hd2 : d.kind = 2 := by simp at hc2 hc3; omega
    obtain ⟨k1, k2, k3, k4, k5⟩ := hk2 hd2
    have hcv := dbits_lt hl
    have hmod := Nat.mod_lt page (show 0 < coversN level by omega)
    rw [endL, hc3, cond_false] at hwk
    refine run ?_
    refine drawAll ?_
    refine runD ?_
    refine callD (fun wc hG => rCovers_e level hl wc) ?_
    refine opD (x_remN rfl rfl page (coversN level) rfl rfl (by omega)) ?_
    refine runD ?_
    refine run ?_
    have e6 := e4 (d.frame + ((page % coversN level : Nat) : Int)) (by omega)
    refine callE (fun wc hG => rFrames_e ws.length cap (by omega) q wc) ?_
    refine run ?_
    refine st_cond _ rfl (fun hc4 => ?_) (fun hc4 => ?_)
    · have hh2 : hasF ws.length (d.frame + ((page % coversN level : Nat) : Int)) = false := by simpa using e6.symm.trans hc4
      rw [hh2, cond_false] at hwk
      rw [← hwk]
      refine run ?_
      refine drawC 5 3 [0, 1, 2] [3, 4] (⟨E, #[.int .i64 1, .int .i64 stage, .int .i64 (level : Int), .bool false, .int .i64 (page : Int)], 87⟩ :: ⟨X, #[.int .i64 d.kind, .int .i64 d.frame, .bool d.r, .bool d.w, .bool d.x, .bool d.af, .bool d.ng, .int .i64 d.soft, .int .i64 d.note], 38⟩ :: ⟨B, #[.slice q ws.length cap], 24⟩ :: ha') ?_
      refine runZ ?_
      refine cStore (b := C) (tb := 85) (cs := #[.int .i64 0, .int .i64 0, .bool false, .bool false, .bool false, .bool false, .bool false, .int .i64 0, .int .i64 0]) (cs' := #[.int .i64 0, .int .i64 0, .bool false, .bool false, .bool false, .bool false, .bool false, .int .i64 0, .int .i64 0]) (hp' := ⟨E, #[.int .i64 1, .int .i64 stage, .int .i64 (level : Int), .bool false, .int .i64 (page : Int)], 87⟩ :: ⟨D, #[.int .i64 0, .int .i64 0, .int .i64 0, .bool false, .int .i64 0], 87⟩ :: ⟨X, #[.int .i64 d.kind, .int .i64 d.frame, .bool d.r, .bool d.w, .bool d.x, .bool d.af, .bool d.ng, .int .i64 d.soft, .int .i64 d.note], 38⟩ :: ⟨B, #[.slice q ws.length cap], 24⟩ :: ha') ?_ (by (refine perm_cnt fun a => ?_; simp only [cntB_app, cntB_cons, cntB_nil]; omega))
      refine cStore (b := D) (tb := 87) (cs := #[.int .i64 0, .int .i64 0, .int .i64 0, .bool false, .int .i64 0]) (cs' := #[.int .i64 1, .int .i64 stage, .int .i64 (level : Int), .bool false, .int .i64 (page : Int)]) (hp' := ⟨C, #[.int .i64 0, .int .i64 0, .bool false, .bool false, .bool false, .bool false, .bool false, .int .i64 0, .int .i64 0], 85⟩ :: ⟨E, #[.int .i64 1, .int .i64 stage, .int .i64 (level : Int), .bool false, .int .i64 (page : Int)], 87⟩ :: ⟨X, #[.int .i64 d.kind, .int .i64 d.frame, .bool d.r, .bool d.w, .bool d.x, .bool d.af, .bool d.ng, .int .i64 d.soft, .int .i64 d.note], 38⟩ :: ⟨B, #[.slice q ws.length cap], 24⟩ :: ha') ?_ (by (refine perm_cnt fun a => ?_; simp only [cntB_app, cntB_cons, cntB_nil]; omega))
      refine dc_nil ?_
      refine opsC ?_
      refine run ?_
      exact finAA (cs := #[.int .i64 0, .int .i64 0, .bool false, .bool false, .bool false, .bool false, .bool false, .int .i64 0, .int .i64 0]) (cs2 := #[.int .i64 1, .int .i64 stage, .int .i64 (level : Int), .bool false, .int .i64 (page : Int)]) ⟨_, ha', rfl, hA'.own, by (refine hpLe_cnt fun a => ?_; simp only [cntB_app, cntB_cons, cntB_nil]; omega)⟩
    have hh2 : hasF ws.length (d.frame + ((page % coversN level : Nat) : Int)) = true := by simpa using e6.symm.trans hc4
    rw [hh2, cond_true] at hwk
    rw [← hwk]
    refine run ?_
    exact finAA (cs := #[.int .i64 (d.frame + ((page % coversN level : Nat) : Int)), .int .i64 0, .bool d.r, .bool d.w, .bool d.x, .bool d.af, .bool d.ng, .int .i64 d.soft, .int .i64 (level : Int)]) (cs2 := #[.int .i64 0, .int .i64 0, .int .i64 0, .bool false, .int .i64 0]) ⟨_, ha', rfl, hA'.own, by (refine hpLe_cnt fun a => ?_; simp only [cntB_app, cntB_cons, cntB_nil]; omega)⟩
theorem rMid_e (ws : List Nat) (hw : W64 ws) {w : World} {v : Value} (h : SlAt w v 1 (ws.map uV)) (hn : ws.length < 1000000) (on : Bool) (frame tag : Int) (h0 : 0 ≤ frame) (mid : Nat) (hp : mid ≤ 4095) (acc : Int) : Fn Try.prog 39 [.agg #[v], .agg #[.bool on, .int .i64 frame, .int .i64 tag], .int .i64 (mid : Int), .int .i64 acc].toArray w [] (fun u hn => ∃ v2 h2, u = .tuple #[htV (midL ws on frame mid acc).h, ftV (midL ws on frame mid acc).f, v2] ∧ Own 3 1 v2 h2 ((midL ws on frame mid acc).rd.map inV) ∧ HpLe h2 hn) := by
  obtain ⟨q, cap, rfl, hne, hle⟩ := h.opened
  refine enter Try.func39 ?_
  refine run ?_
  intro B R C D
  refine st_cond _ rfl (fun hc => ?_) (fun hc => ?_)
  · simp only [midL, hc, cond_true]
    refine run ?_
    refine callE (fun wc hG => rFrames_e ws.length cap (by omega) q wc) ?_
    refine run ?_
    have e6 : decide ((mid : Int) ≥ ((ws.length / 8 : Nat) : Int)) = !hasF ws.length (mid : Int) := by
      rw [Bool.eq_iff_iff]; simp [hasF]
    refine st_cond _ rfl (fun hc2 => ?_) (fun hc2 => ?_)
    · have hh2 : hasF ws.length (mid : Int) = false := by simpa using e6.symm.trans hc2
      rw [hh2, cond_false]
      refine run ?_
      exact finAA (cs := #[.int .i64 0, .int .i64 0, .bool false, .bool false, .bool false, .bool false, .bool false, .int .i64 0, .int .i64 0]) (cs2 := #[.int .i64 1, .int .i64 2, .int .i64 0, .bool false, .int .i64 (mid : Int)]) ⟨_, [], rfl, Own.nil _ _, trivial⟩
    have hh2 : hasF ws.length (mid : Int) = true := by simpa using e6.symm.trans hc2
    rw [hh2, cond_true]
    refine run ?_
    exact finAA (cs := #[.int .i64 (mid : Int), .int .i64 (mid : Int), .bool true, .bool true, .bool true, .bool true, .bool false, .int .i64 0, .int .i64 0]) (cs2 := #[.int .i64 0, .int .i64 0, .int .i64 0, .bool false, .int .i64 0]) ⟨_, [], rfl, Own.nil _ _, trivial⟩
  simp only [midL, hc, cond_false]
  refine run ?_
  refine callB (fun wc hG => rWalk_e ws hw (h.good hG) hn 2 (.inr rfl) frame h0 mid hp) ?_
  rintro u hn2 ⟨v2, h2, rfl, hO, hle2⟩
  generalize walk5 ws 2 frame mid = W at hO
  obtain ⟨q2, cap2, rfl⟩ := hO.opened
  refine ops_le (⟨D, #[.int .i64 0, .int .i64 0, .int .i64 0, .bool false, .int .i64 0], 87⟩ :: ⟨C, #[.int .i64 0, .int .i64 0, .bool false, .bool false, .bool false, .bool false, .bool false, .int .i64 0, .int .i64 0], 85⟩ :: ⟨R, #[.bool on, .int .i64 frame, .int .i64 tag], 91⟩ :: ⟨B, #[.slice q ws.length cap], 24⟩ :: h2) (by (refine hpLe_cnt fun a => ?_; have := HpLe.cnt hle2 a; simp only [cntB_app, cntB_cons, cntB_nil] at *; omega)) ?_
  refine run ?_
  intro H F
  refine st_cutD (σ := FtD) (fun _ => []) (fun g => ⟨F, #[.int .i64 g.kind, .int .i64 g.stage, .int .i64 g.level, .bool g.walk, .int .i64 g.page], 87⟩ :: ⟨H, #[.int .i64 W.h.frame, .int .i64 W.h.mid, .bool W.h.r, .bool W.h.w, .bool W.h.x, .bool W.h.af, .bool W.h.ng, .int .i64 W.h.soft, .int .i64 W.h.level], 85⟩ :: ⟨D, #[.int .i64 0, .int .i64 0, .int .i64 0, .bool false, .int .i64 0], 87⟩ :: ⟨C, #[.int .i64 0, .int .i64 0, .bool false, .bool false, .bool false, .bool false, .bool false, .int .i64 0, .int .i64 0], 85⟩ :: ⟨R, #[.bool on, .int .i64 frame, .int .i64 tag], 91⟩ :: ⟨B, #[.slice q ws.length cap], 24⟩ :: h2) (fun g => g = midG W mid acc) ?_ ?_
  · refine st_cond _ rfl (fun hc2 => ?_) (fun hc2 => ?_)
    · refine run ?_
      refine callE (fun wc hG => rFlag_e W.h.r W.h.w W.h.x W.h.af W.h.ng W.h.soft acc 2 W.h.level mid wc) ?_
      refine run ?_
      exact meetS (flagL W.h.r W.h.w W.h.x W.h.af acc 2 W.h.level mid) (by simp only [midG, hc2, cond_true])
    · refine run ?_
      exact meetS W.f (by simp only [midG, hc2, cond_false])
  rintro g hg
  simp only [midE]
  rw [← hg]
  refine run ?_
  refine st_cond _ rfl (fun hc3 => ?_) (fun hc3 => ?_)
  · rw [hc3, cond_true]
    refine run ?_
    refine drawC 5 3 [0, 1, 2] [3, 4] (⟨F, #[.int .i64 g.kind, .int .i64 g.stage, .int .i64 g.level, .bool g.walk, .int .i64 g.page], 87⟩ :: ⟨H, #[.int .i64 W.h.frame, .int .i64 W.h.mid, .bool W.h.r, .bool W.h.w, .bool W.h.x, .bool W.h.af, .bool W.h.ng, .int .i64 W.h.soft, .int .i64 W.h.level], 85⟩ :: ⟨R, #[.bool on, .int .i64 frame, .int .i64 tag], 91⟩ :: ⟨B, #[.slice q ws.length cap], 24⟩ :: h2) ?_
    refine runZ ?_
    refine cStore (b := C) (tb := 85) (cs := #[.int .i64 0, .int .i64 0, .bool false, .bool false, .bool false, .bool false, .bool false, .int .i64 0, .int .i64 0]) (cs' := #[.int .i64 0, .int .i64 0, .bool false, .bool false, .bool false, .bool false, .bool false, .int .i64 0, .int .i64 0]) (hp' := ⟨F, #[.int .i64 g.kind, .int .i64 g.stage, .int .i64 g.level, .bool g.walk, .int .i64 g.page], 87⟩ :: ⟨H, #[.int .i64 W.h.frame, .int .i64 W.h.mid, .bool W.h.r, .bool W.h.w, .bool W.h.x, .bool W.h.af, .bool W.h.ng, .int .i64 W.h.soft, .int .i64 W.h.level], 85⟩ :: ⟨D, #[.int .i64 0, .int .i64 0, .int .i64 0, .bool false, .int .i64 0], 87⟩ :: ⟨R, #[.bool on, .int .i64 frame, .int .i64 tag], 91⟩ :: ⟨B, #[.slice q ws.length cap], 24⟩ :: h2) ?_ (by (refine perm_cnt fun a => ?_; simp only [cntB_app, cntB_cons, cntB_nil]; omega))
    refine cStore (b := D) (tb := 87) (cs := #[.int .i64 0, .int .i64 0, .int .i64 0, .bool false, .int .i64 0]) (cs' := #[.int .i64 g.kind, .int .i64 g.stage, .int .i64 g.level, .bool g.walk, .int .i64 g.page]) (hp' := ⟨C, #[.int .i64 0, .int .i64 0, .bool false, .bool false, .bool false, .bool false, .bool false, .int .i64 0, .int .i64 0], 85⟩ :: ⟨F, #[.int .i64 g.kind, .int .i64 g.stage, .int .i64 g.level, .bool g.walk, .int .i64 g.page], 87⟩ :: ⟨H, #[.int .i64 W.h.frame, .int .i64 W.h.mid, .bool W.h.r, .bool W.h.w, .bool W.h.x, .bool W.h.af, .bool W.h.ng, .int .i64 W.h.soft, .int .i64 W.h.level], 85⟩ :: ⟨R, #[.bool on, .int .i64 frame, .int .i64 tag], 91⟩ :: ⟨B, #[.slice q ws.length cap], 24⟩ :: h2) ?_ (by (refine perm_cnt fun a => ?_; simp only [cntB_app, cntB_cons, cntB_nil]; omega))
    refine dc_nil ?_
    refine opsC ?_
    refine run ?_
    exact finAA (cs := #[.int .i64 0, .int .i64 0, .bool false, .bool false, .bool false, .bool false, .bool false, .int .i64 0, .int .i64 0]) (cs2 := #[.int .i64 g.kind, .int .i64 g.stage, .int .i64 g.level, .bool g.walk, .int .i64 g.page]) ⟨_, h2, rfl, hO, by (refine hpLe_cnt fun a => ?_; simp only [cntB_app, cntB_cons, cntB_nil]; omega)⟩
  rw [hc3, cond_false]
  refine run ?_
  refine drawC 5 3 [0, 1, 2] [3, 4] (⟨F, #[.int .i64 g.kind, .int .i64 g.stage, .int .i64 g.level, .bool g.walk, .int .i64 g.page], 87⟩ :: ⟨H, #[.int .i64 W.h.frame, .int .i64 (mid : Int), .bool W.h.r, .bool W.h.w, .bool W.h.x, .bool W.h.af, .bool W.h.ng, .int .i64 W.h.soft, .int .i64 W.h.level], 85⟩ :: ⟨R, #[.bool on, .int .i64 frame, .int .i64 tag], 91⟩ :: ⟨B, #[.slice q ws.length cap], 24⟩ :: h2) ?_
  refine runZ ?_
  refine cStore (b := C) (tb := 85) (cs := #[.int .i64 0, .int .i64 0, .bool false, .bool false, .bool false, .bool false, .bool false, .int .i64 0, .int .i64 0]) (cs' := #[.int .i64 W.h.frame, .int .i64 (mid : Int), .bool W.h.r, .bool W.h.w, .bool W.h.x, .bool W.h.af, .bool W.h.ng, .int .i64 W.h.soft, .int .i64 W.h.level]) (hp' := ⟨F, #[.int .i64 g.kind, .int .i64 g.stage, .int .i64 g.level, .bool g.walk, .int .i64 g.page], 87⟩ :: ⟨H, #[.int .i64 W.h.frame, .int .i64 (mid : Int), .bool W.h.r, .bool W.h.w, .bool W.h.x, .bool W.h.af, .bool W.h.ng, .int .i64 W.h.soft, .int .i64 W.h.level], 85⟩ :: ⟨D, #[.int .i64 0, .int .i64 0, .int .i64 0, .bool false, .int .i64 0], 87⟩ :: ⟨R, #[.bool on, .int .i64 frame, .int .i64 tag], 91⟩ :: ⟨B, #[.slice q ws.length cap], 24⟩ :: h2) ?_ (by (refine perm_cnt fun a => ?_; simp only [cntB_app, cntB_cons, cntB_nil]; omega))
  refine cStore (b := D) (tb := 87) (cs := #[.int .i64 0, .int .i64 0, .int .i64 0, .bool false, .int .i64 0]) (cs' := #[.int .i64 g.kind, .int .i64 g.stage, .int .i64 g.level, .bool g.walk, .int .i64 g.page]) (hp' := ⟨C, #[.int .i64 W.h.frame, .int .i64 (mid : Int), .bool W.h.r, .bool W.h.w, .bool W.h.x, .bool W.h.af, .bool W.h.ng, .int .i64 W.h.soft, .int .i64 W.h.level], 85⟩ :: ⟨F, #[.int .i64 g.kind, .int .i64 g.stage, .int .i64 g.level, .bool g.walk, .int .i64 g.page], 87⟩ :: ⟨H, #[.int .i64 W.h.frame, .int .i64 (mid : Int), .bool W.h.r, .bool W.h.w, .bool W.h.x, .bool W.h.af, .bool W.h.ng, .int .i64 W.h.soft, .int .i64 W.h.level], 85⟩ :: ⟨R, #[.bool on, .int .i64 frame, .int .i64 tag], 91⟩ :: ⟨B, #[.slice q ws.length cap], 24⟩ :: h2) ?_ (by (refine perm_cnt fun a => ?_; simp only [cntB_app, cntB_cons, cntB_nil]; omega))
  refine dc_nil ?_
  refine opsC ?_
  refine run ?_
  exact finAA (cs := #[.int .i64 W.h.frame, .int .i64 (mid : Int), .bool W.h.r, .bool W.h.w, .bool W.h.x, .bool W.h.af, .bool W.h.ng, .int .i64 W.h.soft, .int .i64 W.h.level]) (cs2 := #[.int .i64 g.kind, .int .i64 g.stage, .int .i64 g.level, .bool g.walk, .int .i64 g.page]) ⟨_, h2, rfl, hO, by (refine hpLe_cnt fun a => ?_; simp only [cntB_app, cntB_cons, cntB_nil]; omega)⟩
end Go.Proofs.Ytcjbpdejlfomkaa
