/- Layer 18 (part): a call that takes a page of a machine that is gone back. -/
import Derived.Test.YtjnndchkblnkgaaGreatPtI
namespace Go.Proofs.YtjnndchkblnkgaaGreat
open Go.RowKit
set_option linter.unusedVariables false
set_option linter.unusedSimpArgs false
set_option maxRecDepth 20000
attribute [local irreducible] Hy St Ops DH DHF
namespace PtD
def reclaimL (P : PtD) (f : Int) : Except Int PtD :=
  bif !btw f 16 ((P.pages.length : Int) - 1) then .error 2 else bif decide ((P.pg f.toNat).own < 1) || !(P.gs (ix (P.pg f.toNat).own)).dying then .error 7
  else .ok ((P.setPg f.toNat ⟨0, -2⟩).setGs (ix (P.pg f.toNat).own) { P.gs (ix (P.pg f.toNat).own) with dying := (P.setPg f.toNat ⟨0, -2⟩).owns (P.pg f.toNat).own })
end PtD
section
variable {P : PtD} {Y : Lay} {bx tx : Nat} {w : World}
theorem hle_eq {a b c : Hp} (h : a = b) (h2 : HpLe b c) : HpLe a c := h ▸ h2
theorem OwnP.dyingG (h : OwnP P Y) {i : Nat} (hi : i < 4) (d : Bool) : ∃ Y', OwnP (P.setGs i { P.gs i with dying := d }) Y' ∧ Y'.hd (P.setGs i { P.gs i with dying := d }) bx tx = ⟨bx, #[Y.pv P, Y.gv P, Y.ov P], tx⟩ :: ⟨Y.pb, Y.pc, 55⟩ :: ⟨Y.gb, putAt Y.gc (i * 5 + 1) [.bool d], 62⟩ :: ⟨Y.ob, Y.oc, 64⟩ :: ghs Y.G 4 := by
  have g4 := h.n.g4
  have hg := h.setG hi { P.gs i with dying := d } (Y.G i) (gc := putAt Y.gc (i * 5 + 1) [.bool d]) (by
    have := h.gs.put gs_len (h.rowG hi) (k := 1) (vs := [.bool d]) (by simp)
    exact this) (h.vc i hi) (h.mp i hi) (h.wf.gs i (by omega)) (h.sm.vc i (by omega))
  rw [updG_same] at hg
  refine ⟨_, hg, ?_⟩
  rw [hdG]
theorem reclaim_e (h : OwnP P Y) (hm : P.may = true) (hN : HereN (Y.hd P bx 67) w) (c : ClD) (hw : c.Wf) : Fn Tryz.prog 56 [.pointer (some ⟨bx, 0, none⟩), clV c].toArray w ((Y.hd P bx 67).map (·.b)) (CallR bx 67 (P.reclaimL c.frame)) := by
  refine enterM _ hN Tryz.func56 ?_
  refine run ?_
  intro C
  refine run ?_
  refine callE (fun wc hG => framed_e (bx := bx) (tx := 67) h (hG.here' (by (refine hpLe_cnt fun a => ?_; simp only [cntB_app, cntB_cons, cntB_nil]; omega))) c.frame) ?_
  cases hb : PtD.btw c.frame 16 ((P.pages.length : Int) - 1)
  · refine runC ?_
    refine fin1 ?_
    simp [CallR, PtD.reclaimL, hb]
  refine runC ?_
  have hb' := hb
  simp only [PtD.btw, Bool.and_eq_true, decide_eq_true_eq] at hb'
  have hk : c.frame.toNat < P.pages.length := by omega
  have hp0 := h.p0' hk
  have hp1 := h.p1' hk
  have hsm := h.sm.pg
  have hpsz := h.psz
  have hok := PtD.may_ok.1 hm
  have hwho := hok.who _ hk
  refine drawN 10 ?_
  refine runD ?_
  have hi2 : wnt (decide ((P.pg c.frame.toNat).own < 1)) false = true → 1 ≤ (P.pg c.frame.toNat).own ∧ (P.pg c.frame.toNat).own ≤ 4 := fun hd => by
    simp [wnt] at hd; omega
  refine runG ?_
  refine callEG (fun hg wc hG => guestO_e (bx := bx) (tx := 67) h (hG.here' (by (refine hpLe_cnt fun a => ?_; simp only [cntB_app, cntB_cons, cntB_nil]; omega))) (hi2 hg)) ?_
  rw [show ((P.pg c.frame.toNat).own - 1).toNat = ix (P.pg c.frame.toNat).own from rfl]
  have hi : ix (P.pg c.frame.toNat).own < 4 := by unfold ix; omega
  have hz := h.gsz
  have hgd := h.g1 hi
  refine runG ?_
  refine st_cond _ rfl (fun hp => ?_) (fun hp => ?_)
  · refine runC ?_
    refine fin1 ?_
    simp only [PtD.reclaimL, hb, hp]
    rfl
  have key : P.reclaimL c.frame = .ok ((P.setPg c.frame.toNat ⟨0, -2⟩).setGs (ix (P.pg c.frame.toNat).own) { P.gs (ix (P.pg c.frame.toNat).own) with dying := (P.setPg c.frame.toNat ⟨0, -2⟩).owns (P.pg c.frame.toNat).own }) := by
    simp only [PtD.reclaimL, hb, hp]
    rfl
  simp only [Bool.or_eq_false_iff, Bool.not_eq_false'] at hp
  obtain ⟨hp1', hd⟩ := hp
  have hown := hi2 (by rw [hp1']; rfl)
  have h0 := h.setP hk ⟨0, -2⟩ (pc := (Y.pc.setIfInBounds (c.frame.toNat * 2) (.int .i64 0)).setIfInBounds (c.frame.toNat * 2 + 1) (.int .i64 (-2))) (by
    have := h.pg.put pg_len (pg_at hk) (k := 0) (vs := pgV ⟨0, -2⟩) (by simp [pgV])
    exact this) ⟨⟨by decide, by decide⟩, ⟨by decide, by decide⟩⟩
  have hd0 := hdP Y P c.frame.toNat ⟨0, -2⟩ ((Y.pc.setIfInBounds (c.frame.toNat * 2) (.int .i64 0)).setIfInBounds (c.frame.toNat * 2 + 1) (.int .i64 (-2))) bx 67
  obtain ⟨Y1, eY⟩ : ∃ Y1, Y1 = ({ Y with pc := (Y.pc.setIfInBounds (c.frame.toNat * 2) (.int .i64 0)).setIfInBounds (c.frame.toNat * 2 + 1) (.int .i64 (-2)) } : Lay) := ⟨_, rfl⟩
  have e1 : Y1.gb = Y.gb := by rw [eY]
  have e2 : Y1.gc = Y.gc := by rw [eY]
  have e3 : Y1.G = Y.G := by rw [eY]
  rw [← eY] at h0 hd0
  refine runC ?_
  refine drawN 8 ?_
  refine runD ?_
  refine callD (fun wc hG => free_e wc) ?_
  refine runD ?_
  refine runC ?_
  refine callE (fun wc hG => guestO_e (bx := bx) (tx := 67) h0 (hG.here' (by rw [hd0]; (refine hpLe_cnt fun a => ?_; simp only [cntB_app, cntB_cons, cntB_nil]; omega))) hown) ?_
  rw [show ((P.pg c.frame.toNat).own - 1).toNat = ix (P.pg c.frame.toNat).own from rfl, e1]
  refine runC ?_
  refine callE (fun wc hG => owns_e (h0.partQ (bx := bx) (tx := 67) (show Here (Lay.hd Y1 _ bx _) wc from hG.here' (by rw [hd0]; (refine hpLe_cnt fun a => ?_; simp only [cntB_app, cntB_cons, cntB_nil]; omega)))) _) ?_
  refine runC ?_
  refine fin1 ?_
  rw [key]
  have hdy := h0.dyingG hi ((P.setPg c.frame.toNat ⟨0, -2⟩).owns (P.pg c.frame.toNat).own) (bx := bx) (tx := 67)
  obtain ⟨Y2, h2, hd2⟩ := hdy
  refine ⟨rfl, Y2, h2, hle_eq hd2 ?_⟩
  rw [(List.cons.inj hd0).1, e1, e2, e3, eY]
  simp only [putAt]
  (refine hpLe_cnt fun a => ?_; simp only [cntB_app, cntB_cons, cntB_nil]; omega)
theorem frameR_e (h : OwnP P Y) (hh : Here (Y.hd P bx tx) w) (f : Int) : Fn Tryz.prog 62 [.pointer (some ⟨bx, 0, none⟩), .int .i64 f].toArray w [] (fun u _ => u = .int .i64 (bif PtD.btw f 16 ((P.pages.length : Int) - 1) then 0 else 2)) := by
  have hc := (h.partQ hh).cp
  have := h.n.p1
  refine enter Tryz.func62 ?_
  by_cases h1 : f < 16
  · have e : PtD.btw f 16 ((P.pages.length : Int) - 1) = false := by simp [PtD.btw]; omega
    rw [e]
    refine run ?_
    rw [show decide (f < 16) = true by simp [h1]]
    refine runC ?_
    exact fin1 rfl
  · refine run ?_
    rw [show decide (f < 16) = false by simp [h1]]
    refine runG ?_
    rw [show (false || decide (((P.pages.length : Nat) : Int) ≤ f)) = !PtD.btw f 16 ((P.pages.length : Int) - 1) by rw [Bool.eq_iff_iff]; simp [PtD.btw]; omega]
    cases PtD.btw f 16 ((P.pages.length : Int) - 1)
    · refine runC ?_
      exact fin1 rfl
    · refine runC ?_
      exact fin1 rfl
/-- Is one that is gone dying still: the reference's. -/
theorem settle_e (h : OwnP P Y) (hN : HereN (Y.hd P bx 26) w) (vm : Int) (hv : 1 ≤ vm ∧ vm ≤ 4) : Fn Tryz.prog 66 [.pointer (some ⟨bx, 0, none⟩), .int .i64 vm].toArray w ((Y.hd P bx 26).map (·.b)) (fun u hn => u = .tuple #[] ∧ ∃ Y', OwnP (P.setGs (ix vm) { P.gs (ix vm) with dying := P.owns vm }) Y' ∧ HpLe (Y'.hd (P.setGs (ix vm) { P.gs (ix vm) with dying := P.owns vm }) bx 26) hn) := by
  have hi := ix_lt hv
  have hpsz := h.psz
  have hz := h.gsz
  have g4 := h.n.g4
  have hp1 := h.n.p1
  refine enterM _ hN Tryz.func66 ?_
  refine run ?_
  refine loopS (σ := Nat × Bool) (fun s => [(4, .bool s.2), (5, .int .i64 (s.1 : Int))]) (fun _ => Y.hd P bx 26) (fun s => s.1 ≤ P.pages.length ∧ s.2 = (P.pages.take s.1).any fun x => decide (x.own = vm)) (fun s => P.pages.length - s.1) (0, false) ⟨Nat.zero_le _, by simp⟩ ?_
  rintro ⟨k, b⟩ m hm ⟨hk, hb⟩
  dsimp only at hm hk hb ⊢
  refine run ?_
  refine st_cond _ rfl (fun hc => ?_) (fun hc => ?_)
  · have hlt : k < P.pages.length := by simp at hc; omega
    have hp0 := h.p0' hlt
    refine runG ?_
    refine nextS (k + 1, b || decide ((P.pg k).own = vm)) ⟨hlt, ?_⟩
    dsimp only
    rw [List.take_succ_eq_append_getElem hlt, List.any_append, ← hb]
    have : P.pages[k] = P.pg k := by rw [PtD.pg, List.getD_eq_getElem?_getD, List.getElem?_eq_getElem hlt]; rfl
    simp [this]
  · have hge : k = P.pages.length := by simp at hc; omega
    subst hge
    rw [List.take_length] at hb
    refine runC ?_
    obtain ⟨Y2, h2, hd2⟩ := h.dyingG hi (P.owns vm) (bx := bx) (tx := 26)
    refine fin0 ⟨rfl, Y2, h2, hle_eq hd2 ?_⟩
    have hb' : b = P.owns vm := hb
    simp only [putAt, ← hb', show (vm - 1).toNat = ix vm from rfl]
    (refine hpLe_cnt fun a => ?_; simp only [cntB_app, cntB_cons, cntB_nil]; omega)
theorem hostReclaim_e (h : OwnP P Y) (hm : P.may = true) (hN : HereN (Y.hd P bx 26) w) (cpu : Int) (vm fr mid vc cc : Int) (hw : ClD.Wf ⟨4, vm, fr, mid, vc, cc⟩) : Fn Tryz.prog 31 [.pointer (some ⟨bx, 0, none⟩), .int .i64 cpu, clV ⟨4, vm, fr, mid, vc, cc⟩].toArray w ((Y.hd P bx 26).map (·.b)) (CallR bx 26 (P.reclaimL fr)) := by
  refine enterM _ hN Tryz.func31 ?_
  refine run ?_
  intro B
  refine run ?_
  refine callE (fun wc hG => names_e ⟨4, vm, fr, mid, vc, cc⟩ wc) ?_
  refine runC ?_
  refine callE (fun wc hG => frameR_e (bx := bx) (tx := 26) h (hG.here' (by (refine hpLe_cnt fun a => ?_; simp only [cntB_app, cntB_cons, cntB_nil]; omega))) fr) ?_
  cases hb : PtD.btw fr 16 ((P.pages.length : Int) - 1)
  · refine runC ?_
    refine fin1 ?_
    simp [CallR, PtD.reclaimL, hb]
  have hb' := hb
  simp only [PtD.btw, Bool.and_eq_true, decide_eq_true_eq] at hb'
  have hk : fr.toNat < P.pages.length := by omega
  have hp0 := h.p0' hk
  have hp1 := h.p1' hk
  have hsm := h.sm.pg
  have hpsz := h.psz
  have hok := PtD.may_ok.1 hm
  have hwho := hok.who _ hk
  have hgst := hok.guest _ hk
  have hz := h.gsz
  have g4 := h.n.g4
  refine runC ?_
  refine drawAll ?_
  refine runDG ?_
  refine runC ?_
  refine drawN 7 ?_
  refine runD ?_
  refine runC ?_
  have hi : ix (P.pg fr.toNat).own < 4 := by unfold ix; omega
  have hgd : nth Y.gc.toList (((P.pg fr.toNat).own - 1).toNat * 5 + 1) = some (.bool (P.gs (ix (P.pg fr.toNat).own)).dying) := h.g1 hi
  refine drawAll ?_
  refine runDG ?_
  refine runC ?_
  refine st_cond _ rfl (fun hp => ?_) (fun hp => ?_)
  · refine runC ?_
    refine fin1 ?_
    simp only [PtD.reclaimL, hb, hp]
    rfl
  have key : P.reclaimL fr = .ok ((P.setPg fr.toNat ⟨0, -2⟩).setGs (ix (P.pg fr.toNat).own) { P.gs (ix (P.pg fr.toNat).own) with dying := (P.setPg fr.toNat ⟨0, -2⟩).owns (P.pg fr.toNat).own }) := by
    simp only [PtD.reclaimL, hb, hp]
    rfl
  simp only [Bool.or_eq_false_iff, Bool.not_eq_false', decide_eq_false_iff_not] at hp
  obtain ⟨hp1', hd⟩ := hp
  have hown : 1 ≤ (P.pg fr.toNat).own ∧ (P.pg fr.toNat).own ≤ 4 := by omega
  have hwit : (P.pg fr.toNat).wit = -2 := by
    rcases hgst (by omega) with h1 | ⟨_, h1⟩
    · exact h1
    · exfalso
      simp only [PtD.lives, Bool.and_eq_true] at h1
      have := (hok.liv _ hi h1.2).1
      rw [hd] at this
      cases this
  have h0 := h.setP hk ⟨0, -2⟩ (pc := Y.pc.setIfInBounds (fr.toNat * 2) (.int .i64 0)) (by
    have := h.pg.put pg_len (pg_at hk) (k := 0) (vs := [.int .i64 0]) (by simp)
    rw [hwit] at this
    exact this) ⟨⟨by decide, by decide⟩, ⟨by decide, by decide⟩⟩
  have hd0 := hdP Y P fr.toNat ⟨0, -2⟩ (Y.pc.setIfInBounds (fr.toNat * 2) (.int .i64 0)) bx 26
  obtain ⟨Y1, eY⟩ : ∃ Y1, Y1 = ({ Y with pc := Y.pc.setIfInBounds (fr.toNat * 2) (.int .i64 0) } : Lay) := ⟨_, rfl⟩
  rw [← eY] at h0 hd0
  refine runC ?_
  refine callM (Y1.hd (P.setPg fr.toNat ⟨0, -2⟩) bx 26) [⟨B, #[.int .i64 4, .int .i64 vm, .int .i64 fr, .int .i64 mid, .int .i64 vc, .int .i64 cc], 33⟩] (fun wc hG => settle_e h0 hG.hereN _ hown) (fun v hn hR => ?_) (by rw [hd0]; (refine perm_cnt fun a => ?_; simp only [cntB_app, cntB_cons, cntB_nil]; omega))
  obtain ⟨rfl, Y', hO, hle⟩ := hR
  refine runC ?_
  refine fin1 ?_
  rw [key]
  exact ⟨rfl, Y', hO, hpLe_cnt fun a => Nat.le_trans (hle.cnt a) (by simp only [cntB_app, cntB_cons, cntB_nil]; omega)⟩
theorem hostCallReclaim_e (h : OwnP P Y) (hm : P.may = true) (hN : HereN (Y.hd P bx 67) w) (cpu vm fr mid vc cc : Int) (hw : ClD.Wf ⟨4, vm, fr, mid, vc, cc⟩) : Fn Tryz.prog 30 [.pointer (some ⟨bx, 0, none⟩), .int .i64 cpu, clV ⟨4, vm, fr, mid, vc, cc⟩].toArray w ((Y.hd P bx 67).map (·.b)) (CallR bx 67 (P.reclaimL fr)) := by
  refine enterM _ hN Tryz.func30 ?_
  refine run ?_
  intro C
  refine runC ?_
  refine callM (Y.hd P bx 67) [⟨C, #[.int .i64 4, .int .i64 vm, .int .i64 fr, .int .i64 mid, .int .i64 vc, .int .i64 cc], 33⟩] (fun wc hG => reclaim_e h hm hG.hereN ⟨4, vm, fr, mid, vc, cc⟩ hw) (fun v hn hR => ?_) (by rw [hdY]; (refine perm_cnt fun a => ?_; simp only [cntB_app, cntB_cons, cntB_nil]; omega))
  refine runC ?_
  refine fin1 ?_
  exact hR.le (by (refine hpLe_cnt fun a => ?_; simp only [cntB_app, cntB_cons, cntB_nil]; omega))
theorem kindReclaim : KindOk 4 := by
  refine kind_host (fun P c cpu => P.reclaimL c.frame) ?_ rfl rfl rfl ?_ ?_
  · intro P c cpu e h
    dsimp only [PtD.reclaimL] at h
    revert h
    cases PtD.btw c.frame 16 ((P.pages.length : Int) - 1) <;> cases (decide ((P.pg c.frame.toNat).own < 1) || !(P.gs (ix (P.pg c.frame.toNat).own)).dying) <;> (intro h; cases h; try decide)
  · rintro P Y bx w ⟨_, vm, fr, mid, vc, cc⟩ cpu rfl hw hm hc hv hO hN
    exact hostCallReclaim_e hO hm hN cpu vm fr mid vc cc hw
  · rintro P Y bx w ⟨_, vm, fr, mid, vc, cc⟩ cpu rfl hw hm hc hv hO hN
    exact hostReclaim_e hO hm hN cpu vm fr mid vc cc hw
end
end Go.Proofs.YtjnndchkblnkgaaGreat
