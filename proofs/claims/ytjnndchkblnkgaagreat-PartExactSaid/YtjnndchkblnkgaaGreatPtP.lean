/- Layer 18 (part): a machine begun: the reference's, and both. -/
import Derived.Test.YtjnndchkblnkgaaGreatPtO
import Derived.Test.YtjnndchkblnkgaaGreatPtN
namespace Go.Proofs.YtjnndchkblnkgaaGreat
open Go.RowKit
set_option linter.unusedVariables false
set_option linter.unusedSimpArgs false
set_option maxRecDepth 20000
attribute [local irreducible] Hy St Ops DH DHF
namespace PtD
theorem five_eq (P : PtD) (f : Nat) (hf : f + 5 ≤ P.pages.length) : P.five f = (List.range 5).map fun j => P.pg (f + j) := by
  apply List.ext_getElem?
  intro i
  rw [five, List.getElem?_take, List.getElem?_map]
  by_cases hi : i < 5
  · rw [if_pos hi, List.getElem?_drop, List.getElem?_range hi, Option.map_some]
    show _ = some (P.pages.getD (f + i) default)
    rw [List.getD_eq_getElem?_getD, List.getElem?_eq_getElem (by omega)]; rfl
  · rw [if_neg hi, List.getElem?_eq_none (by rw [List.length_range]; omega)]; rfl
theorem five_any {P : PtD} {f : Nat} (hf : f + 5 ≤ P.pages.length) {p : PgD → Bool} : (P.five f).any p = true ↔ ∃ j, j < 5 ∧ p (P.pg (f + j)) = true := by
  rw [five_eq P f hf]
  simp [List.any_eq_true]
theorem five_no {P : PtD} {f : Nat} (hf : f + 5 ≤ P.pages.length) {p : PgD → Bool} (h : ∀ j, j < 5 → p (P.pg (f + j)) = false) : (P.five f).any p = false := by
  rw [← Bool.not_eq_true, five_any hf]
  rintro ⟨j, hj, hp⟩
  rw [h j hj] at hp
  cases hp
theorem claim_pg (P : PtD) (f k : Nat) (hf : f + k ≤ P.pages.length) (j : Nat) : (P.claim f k).pg j = if f ≤ j ∧ j < f + k then ⟨-1, -2⟩ else P.pg j := by
  induction k with
  | zero => rw [if_neg (by omega)]; rfl
  | succ k ih =>
    rw [claim, setPg_pg _ _ _ (by rw [claim_len]; omega), ih (by omega)]
    by_cases hj : j = f + k
    · rw [if_pos hj, if_pos (by omega)]
    · rw [if_neg hj]
      by_cases h2 : f ≤ j ∧ j < f + k
      · rw [if_pos h2, if_pos (by omega)]
      · rw [if_neg h2, if_neg (by omega)]
end PtD
section
variable {P : PtD} {Y : Lay} {bx tx : Nat} {w : World}
theorem createR_e (h : OwnP P Y) (hm : P.may = true) (hN : HereN (Y.hd P bx 26) w) (f : Nat) (hf : 16 ≤ f ∧ f < P.pages.length) : Fn Tryz.prog 67 [.pointer (some ⟨bx, 0, none⟩), .int .i64 (f : Int)].toArray w ((Y.hd P bx 26).map (·.b)) (CallR bx 26 (P.createL f)) := by
  have hsm := h.sm.pg
  have hpsz := h.psz
  have g4 := h.n.g4
  have hz := h.gsz
  have hb : PtD.btw (f : Int) 16 ((P.pages.length : Int) - 1) = true := by simp [PtD.btw]; omega
  refine enterM _ hN Tryz.func67 ?_
  refine run ?_
  refine st_cond _ rfl (fun hp => ?_) (fun hp => ?_)
  · refine runC ?_
    refine fin1 ?_
    simp only [PtD.createL, hb, hp]
    rfl
  have hp' := hp
  simp only [decide_eq_false_iff_not] at hp'
  have hf5 : f + 5 ≤ P.pages.length := by omega
  have hkey : P.createL f = bif (P.five f).any (fun x => !decide (x.own = 0)) then .error 7 else bif (P.five f).any (fun x => !decide (x.wit = -2)) then .error 4
      else bif !decide (0 ≤ idxI PtD.idle P.guests) then .error 5
      else .ok ((P.claim f 5).setGs (idxI PtD.idle P.guests).toNat ⟨true, false, f, [], []⟩) := by
    rw [PtD.createL, hb, hp, Int.toNat_natCast]; rfl
  rw [hkey]
  refine run ?_
  refine loopS (σ := Nat) (fun k => [(5, .int .i64 (k : Int))]) (fun _ => Y.hd P bx 26) (fun k => f ≤ k ∧ k ≤ f + 5 ∧ ∀ j, f + j < k → decide ((P.pg (f + j)).own = 0) = true) (fun k => f + 5 - k) f ⟨Nat.le_refl _, by omega, fun j hj => absurd hj (by omega)⟩ ?_
  rintro k m hm' ⟨hk1, hk2, hno⟩
  refine run ?_
  refine st_cond _ rfl (fun hc => ?_) (fun hc => ?_)
  · have hlt : k < f + 5 := by simp at hc; omega
    have hp0 := h.p0' (i := k) (by omega)
    obtain ⟨j, rfl⟩ : ∃ j, k = f + j := ⟨k - f, by omega⟩
    refine run ?_
    refine st_cond _ rfl (fun hq => ?_) (fun hq => ?_)
    · have : (P.five f).any (fun x => !decide (x.own = 0)) = true := (PtD.five_any hf5).2 ⟨j, by omega, hq⟩
      rw [this]
      refine run ?_
      refine fin1 ?_
      rfl
    · refine run ?_
      refine nextS (f + j + 1) ⟨by omega, by omega, fun i hi => ?_⟩
      rcases Nat.lt_succ_iff_lt_or_eq.1 hi with hi | hi
      · exact hno i hi
      · have : i = j := by omega
        subst this
        simpa using hq
  have hk : k = f + 5 := by simp at hc; omega
  subst hk
  have hA : (P.five f).any (fun x => !decide (x.own = 0)) = false := PtD.five_no hf5 fun j hj => by rw [hno j (by omega)]; rfl
  rw [hA]
  refine run ?_
  refine loopS (σ := Nat) (fun k => [(6, .int .i64 (k : Int))]) (fun _ => Y.hd P bx 26) (fun k => f ≤ k ∧ k ≤ f + 5 ∧ ∀ j, f + j < k → decide ((P.pg (f + j)).wit = -2) = true) (fun k => f + 5 - k) f ⟨Nat.le_refl _, by omega, fun j hj => absurd hj (by omega)⟩ ?_
  rintro k m hm' ⟨hk1, hk2, hnw⟩
  refine run ?_
  refine st_cond _ rfl (fun hc => ?_) (fun hc => ?_)
  · have hlt : k < f + 5 := by simp at hc; omega
    have hp1 := h.p1' (i := k) (by omega)
    obtain ⟨j, rfl⟩ : ∃ j, k = f + j := ⟨k - f, by omega⟩
    refine run ?_
    refine st_cond _ rfl (fun hq => ?_) (fun hq => ?_)
    · have : (P.five f).any (fun x => !decide (x.wit = -2)) = true := (PtD.five_any hf5).2 ⟨j, by omega, hq⟩
      rw [this]
      refine run ?_
      refine fin1 ?_
      rfl
    · refine run ?_
      refine nextS (f + j + 1) ⟨by omega, by omega, fun i hi => ?_⟩
      rcases Nat.lt_succ_iff_lt_or_eq.1 hi with hi | hi
      · exact hnw i hi
      · have : i = j := by omega
        subst this
        simpa using hq
  have hk : k = f + 5 := by simp at hc; omega
  subst hk
  have hB : (P.five f).any (fun x => !decide (x.wit = -2)) = false := PtD.five_no hf5 fun j hj => by rw [hnw j (by omega)]; rfl
  rw [hB]
  refine run ?_
  refine loopS (σ := Nat) (fun k => [(7, .int .i64 (k : Int))]) (fun _ => Y.hd P bx 26) (fun k => k ≤ 4 ∧ ∀ j, j < k → PtD.idle (P.guests.getD j default) = false) (fun k => 4 - k) 0 ⟨Nat.zero_le _, fun j hj => absurd hj (by omega)⟩ ?_
  rintro i m hm' ⟨hi4, hnl⟩
  refine run ?_
  refine st_cond _ rfl (fun hc => ?_) (fun hc => ?_)
  rotate_left
  · have hi : i = 4 := by simp at hc; omega
    subst hi
    rw [idxI_none (p := PtD.idle) (l := P.guests) (by rw [g4]; exact hnl)]
    refine run ?_
    refine fin1 ?_
    rfl
  have hi : i < 4 := by simp at hc; omega
  have n0 := h.g0 hi
  have n1 := h.g1 hi
  refine runG ?_
  refine st_cond _ rfl (fun hq => ?_) (fun hq => ?_)
  rotate_left
  · refine run ?_
    refine nextS (i + 1) ⟨by omega, fun j hj => ?_⟩
    rcases Nat.lt_succ_iff_lt_or_eq.1 hj with hj | rfl
    · exact hnl j hj
    · exact hq
  have hidx : idxI PtD.idle P.guests = i := idxI_at (p := PtD.idle) (by omega) hq hnl
  rw [hidx]
  have hrow := h.gs.put gs_len (h.rowG hi) (k := 0) (vs := [.bool true, .bool false, .int .i64 f, .slice none 0 0, .slice none 0 0]) (by simp)
  have h0 := h.setG hi ⟨true, false, f, [], []⟩ ⟨.slice none 0 0, .slice none 0 0, [], []⟩ (gc := putAt Y.gc (i * 5) [.bool true, .bool false, .int .i64 f, .slice none 0 0, .slice none 0 0]) hrow ⟨by simp, .inl ⟨rfl, rfl, rfl⟩⟩ ⟨by simp, .inl ⟨rfl, rfl, rfl⟩⟩ ⟨⟨by dsimp only; omega, by dsimp only; omega⟩, by simp, by simp⟩ ⟨by simp, by simp⟩
  obtain ⟨gc', hgc⟩ : ∃ gc', gc' = putAt Y.gc (i * 5) [.bool true, .bool false, .int .i64 f, .slice none 0 0, .slice none 0 0] := ⟨_, rfl⟩
  obtain ⟨G', hG'⟩ : ∃ G', G' = updG Y.G i ⟨.slice none 0 0, .slice none 0 0, [], []⟩ := ⟨_, rfl⟩
  obtain ⟨g', hg'⟩ : ∃ g' : GsD, g' = ⟨true, false, f, [], []⟩ := ⟨_, rfl⟩
  rw [← hgc, ← hG', ← hg'] at h0
  rw [← hg']
  refine run ?_
  refine loopS (σ := Nat × Array Value) (fun s => [(8, .int .i64 ((f + s.1 : Nat) : Int))]) (fun s => ⟨Y.gb, gc', 62⟩ :: ⟨Y.pb, s.2, 55⟩ :: ⟨bx, #[Y.pv P, Y.gv P, Y.ov P], 26⟩ :: ⟨Y.ob, Y.oc, 64⟩ :: ghs Y.G 4) (fun s => s.1 ≤ 5 ∧ OwnP ((P.setGs i g').claim f s.1) { Y with gc := gc', G := G', pc := s.2 }) (fun s => 5 - s.1) (0, Y.pc) ⟨Nat.zero_le _, h0⟩ (hh := by rw [hgc]; simp only [putAt]; (refine hpLe_cnt fun a => ?_; simp only [cntB_app, cntB_cons, cntB_nil]; omega)) ?_
  rintro ⟨k, pc⟩ m hm' ⟨hk, hO⟩
  dsimp only at hm' hk hO ⊢
  have hcl : ((P.setGs i g').claim f k).pages.length = P.pages.length := PtD.claim_len _ _ _
  refine run ?_
  refine st_cond _ rfl (fun hc => ?_) (fun hc => ?_)
  · have hlt : k < 5 := by simp at hc; omega
    have hps := hO.psz
    rw [hcl] at hps
    dsimp only at hps
    refine run ?_
    have hfk : f + k < ((P.setGs i g').claim f k).pages.length := by rw [hcl]; omega
    have hpgk : ((P.setGs i g').claim f k).pg (f + k) = P.pg (f + k) := by
      rw [PtD.claim_pg (P.setGs i g') f k (show f + k ≤ P.pages.length by omega) (f + k), if_neg (by omega)]; rfl
    have hw2 := hnw k (by omega)
    simp only [decide_eq_true_eq] at hw2
    have h1 := hO.setP hfk ⟨-1, -2⟩ (pc := pc.setIfInBounds ((f + k) * 2) (.int .i64 (-1))) (by
      have := hO.pg.put pg_len (pg_at hfk) (k := 0) (vs := [.int .i64 (-1)]) (by simp)
      rw [hpgk, hw2] at this
      exact this) ⟨⟨by decide, by decide⟩, ⟨by decide, by decide⟩⟩
    exact nextS (k + 1, pc.setIfInBounds ((f + k) * 2) (.int .i64 (-1))) (hm := by dsimp only; omega) ⟨hlt, h1⟩ (h2 := by (refine hpLe_cnt fun a => ?_; simp only [cntB_app, cntB_cons, cntB_nil]; omega))
  · have hk5 : k = 5 := by simp at hc; omega
    subst hk5
    refine run ?_
    refine fin1 ?_
    obtain ⟨r, g1, g2⟩ := ghs_upd Y.G hi
    have g3 := g2 (.slice none 0 0) (.slice none 0 0) [] []
    rw [← hG'] at g3
    have hq2 : ((P.setGs i g').claim f 5) = (P.claim f 5).setGs (Int.toNat (i : Int)) g' := by rw [Int.toNat_natCast]; rfl
    rw [hq2] at hO
    have e0 : decide (0 ≤ (i : Int)) = true := by simp
    rw [e0]
    refine ⟨rfl, _, hO, ?_⟩
    rw [← hq2]
    refine hle_eq (b := ⟨bx, #[Y.pv P, Y.gv P, Y.ov P], 26⟩ :: ⟨Y.pb, pc, 55⟩ :: ⟨Y.gb, gc', 62⟩ :: ⟨Y.ob, Y.oc, 64⟩ :: ghs (G') 4) ?_ ?_
    · have l1 : ((P.setGs i g').claim f 5).guests.length = P.guests.length := by rw [PtD.claim_gs]; simp [PtD.setGs]
      have l2 : ((P.setGs i g').claim f 5).on.length = P.on.length := by rw [PtD.claim_on]; rfl
      simp only [Lay.hd, Lay.in, Lay.pv, Lay.gv, Lay.ov, hcl, l1, l2]
    · (refine hpLe_cnt fun a => ?_; have := HpLe.cnt g3 a; have := HpLe.cnt g1 a; simp only [cntB_app, cntB_cons, cntB_nil] at *; omega)
theorem hostCreate_e (h : OwnP P Y) (hm : P.may = true) (hN : HereN (Y.hd P bx 26) w) (cpu : Int) (vm fr mid vc cc : Int) (hw : ClD.Wf ⟨5, vm, fr, mid, vc, cc⟩) : Fn Tryz.prog 31 [.pointer (some ⟨bx, 0, none⟩), .int .i64 cpu, clV ⟨5, vm, fr, mid, vc, cc⟩].toArray w ((Y.hd P bx 26).map (·.b)) (CallR bx 26 (P.createL fr)) := by
  refine enterM _ hN Tryz.func31 ?_
  refine run ?_
  intro B
  refine run ?_
  refine callE (v := .bool false) (fun wc hG => names_e ⟨5, vm, fr, mid, vc, cc⟩ wc) ?_
  refine runC ?_
  refine callE (fun wc hG => frameR_e (bx := bx) (tx := 26) h (hG.here' (by (refine hpLe_cnt fun a => ?_; simp only [cntB_app, cntB_cons, cntB_nil]; omega))) fr) ?_
  cases hb : PtD.btw fr 16 ((P.pages.length : Int) - 1)
  · refine runC ?_
    refine fin1 ?_
    simp [CallR, PtD.createL, hb]
  have hb' := hb
  simp only [PtD.btw, Bool.and_eq_true, decide_eq_true_eq] at hb'
  obtain ⟨f, rfl⟩ : ∃ f : Nat, fr = f := ⟨fr.toNat, by omega⟩
  have hz := h.gsz
  have g4 := h.n.g4
  refine runC ?_
  refine drawAll ?_
  refine runDG ?_
  refine runC ?_
  refine callM (Y.hd P bx 26) [⟨B, #[.int .i64 5, .int .i64 vm, .int .i64 f, .int .i64 mid, .int .i64 vc, .int .i64 cc], 33⟩] (fun wc hG => createR_e h hm hG.hereN f (by omega)) (fun v hn hR => ?_) (by rw [hdY]; (refine perm_cnt fun a => ?_; simp only [cntB_app, cntB_cons, cntB_nil]; omega))
  refine runC ?_
  refine fin1 ?_
  exact hR.le (by (refine hpLe_cnt fun a => ?_; simp only [cntB_app, cntB_cons, cntB_nil]; omega))
theorem hostCallCreate_e (h : OwnP P Y) (hm : P.may = true) (hN : HereN (Y.hd P bx 67) w) (cpu vm fr mid vc cc : Int) (hw : ClD.Wf ⟨5, vm, fr, mid, vc, cc⟩) : Fn Tryz.prog 30 [.pointer (some ⟨bx, 0, none⟩), .int .i64 cpu, clV ⟨5, vm, fr, mid, vc, cc⟩].toArray w ((Y.hd P bx 67).map (·.b)) (CallR bx 67 (P.createL fr)) := by
  refine enterM _ hN Tryz.func30 ?_
  refine run ?_
  intro C
  refine runC ?_
  refine callM (Y.hd P bx 67) [⟨C, #[.int .i64 5, .int .i64 vm, .int .i64 fr, .int .i64 mid, .int .i64 vc, .int .i64 cc], 33⟩] (fun wc hG => create_e h hm hG.hereN ⟨5, vm, fr, mid, vc, cc⟩ hw) (fun v hn hR => ?_) (by rw [hdY]; (refine perm_cnt fun a => ?_; simp only [cntB_app, cntB_cons, cntB_nil]; omega))
  refine runC ?_
  refine fin1 ?_
  exact hR.le (by (refine hpLe_cnt fun a => ?_; simp only [cntB_app, cntB_cons, cntB_nil]; omega))
theorem kindCreate : KindOk 5 := by
  refine kind_host (fun P c cpu => P.createL c.frame) ?_ rfl rfl rfl ?_ ?_
  · intro P c cpu e h
    dsimp only [PtD.createL] at h
    revert h
    cases (!PtD.btw c.frame 16 ((P.pages.length : Int) - 1) || decide ((P.pages.length : Int) - 5 < c.frame)) <;> cases (P.five c.frame.toNat).any (fun x => !decide (x.own = 0)) <;> cases (P.five c.frame.toNat).any (fun x => !decide (x.wit = -2)) <;> cases decide (0 ≤ idxI PtD.idle P.guests) <;> (intro h; cases h; try decide)
  · rintro P Y bx w ⟨_, vm, fr, mid, vc, cc⟩ cpu rfl hw hm hc hv hO hN
    exact hostCallCreate_e hO hm hN cpu vm fr mid vc cc hw
  · rintro P Y bx w ⟨_, vm, fr, mid, vc, cc⟩ cpu rfl hw hm hc hv hO hN
    exact hostCreate_e hO hm hN cpu vm fr mid vc cc hw
end
end Go.Proofs.YtjnndchkblnkgaaGreat
