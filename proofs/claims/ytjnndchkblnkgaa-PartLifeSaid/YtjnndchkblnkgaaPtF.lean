/- Layer 18 (part): a call that takes a page of a machine that is gone back. -/
import Derived.Test.YtjnndchkblnkgaaPtI
namespace Go.Proofs.Ytjnndchkblnkgaa
open Go.RowKit
set_option linter.unusedVariables false
set_option linter.unusedSimpArgs false
set_option maxRecDepth 20000
attribute [local irreducible] Hy St Ops DH DHF
namespace PtD
def reclaimL (P : PtD) (f : Int) : Except Int PtD :=
  bif !btw f 16 ((P.pages.length : Int) - 1) then .error 2 else bif decide ((P.pg f.toNat).own < 1) || !(P.gs (ix (P.pg f.toNat).own)).dying then .error 7
  else .ok ((P.setPg f.toNat ⟨0, -2⟩).setGs (ix (P.pg f.toNat).own) { P.gs (ix (P.pg f.toNat).own) with dying := (P.setPg f.toNat ⟨0, -2⟩).owns (P.pg f.toNat).own })
end PtD
section
variable {P : PtD} {Y : Lay} {bx tx : Nat} {w : World}
theorem hle_eq {a b c : Hp} (h : a = b) (h2 : HpLe b c) : HpLe a c := h ▸ h2
theorem OwnP.dyingG (h : OwnP P Y) {i : Nat} (hi : i < 4) (d : Bool) : ∃ Y', OwnP (P.setGs i { P.gs i with dying := d }) Y' ∧ Y'.hd (P.setGs i { P.gs i with dying := d }) bx tx = ⟨bx, #[Y.pv P, Y.gv P, Y.ov P], tx⟩ :: ⟨Y.pb, Y.pc, 51⟩ :: ⟨Y.gb, putAt Y.gc (i * 5 + 1) [.bool d], 57⟩ :: ⟨Y.ob, Y.oc, 59⟩ :: ghs Y.G 4 := by
  have g4 := h.n.g4
  have hg := h.setG hi { P.gs i with dying := d } (Y.G i) (gc := putAt Y.gc (i * 5 + 1) [.bool d]) (by
    have := h.gs.put gs_len (h.rowG hi) (k := 1) (vs := [.bool d]) (by simp)
    exact this) (h.vc i hi) (h.mp i hi) (h.wf.gs i (by omega)) (h.sm.vc i (by omega))
  rw [updG_same] at hg
  refine ⟨_, hg, ?_⟩
  rw [hdG]
theorem reclaim_e (h : OwnP P Y) (hm : P.may = true) (hN : HereN (Y.hd P bx 66) w) (c : ClD) (hw : c.Wf) : Fn Try.prog 45 [.pointer (some ⟨bx, 0, none⟩), clV c].toArray w ((Y.hd P bx 66).map (·.b)) (CallR bx 66 (P.reclaimL c.frame)) := by
  refine enterM _ hN Try.func45 ?_
  refine run ?_
  intro C
  refine run ?_
  refine callE (fun wc hG => framed_e (bx := bx) (tx := 66) h (hG.here' (by (refine hpLe_cnt fun a => ?_; simp only [cntB_app, cntB_cons, cntB_nil]; omega))) c.frame) ?_
  cases hb : PtD.btw c.frame 16 ((P.pages.length : Int) - 1)
  · refine runC ?_
    refine fin1 ?_
    simp [CallR, PtD.reclaimL, hb]
  refine runC ?_
  have hb' := hb
  simp only [PtD.btw, Bool.and_eq_true, decide_eq_true_eq] at hb'
  have hk : c.frame.toNat < P.pages.length := by omega
  have hp0 := h.p0' hk
  have hp1 := h.p1' hk
  have hsm := h.sm.pg
  have hpsz := h.psz
  have hok := PtD.may_ok.1 hm
  have hwho := hok.who _ hk
  refine drawN 10 ?_
  refine runD ?_
  have hi2 : wnt (decide ((P.pg c.frame.toNat).own < 1)) false = true → 1 ≤ (P.pg c.frame.toNat).own ∧ (P.pg c.frame.toNat).own ≤ 4 := fun hd => by
    simp [wnt] at hd; omega
  refine runG ?_
  refine callEG (fun hg wc hG => guestO_e (bx := bx) (tx := 66) h (hG.here' (by (refine hpLe_cnt fun a => ?_; simp only [cntB_app, cntB_cons, cntB_nil]; omega))) (hi2 hg)) ?_
  rw [show ((P.pg c.frame.toNat).own - 1).toNat = ix (P.pg c.frame.toNat).own from rfl]
  have hi : ix (P.pg c.frame.toNat).own < 4 := by unfold ix; omega
  have hz := h.gsz
  have hgd := h.g1 hi
  refine runG ?_
  refine st_cond _ rfl (fun hp => ?_) (fun hp => ?_)
  · refine runC ?_
    refine fin1 ?_
    simp only [PtD.reclaimL, hb, hp]
    rfl
  have key : P.reclaimL c.frame = .ok ((P.setPg c.frame.toNat ⟨0, -2⟩).setGs (ix (P.pg c.frame.toNat).own) { P.gs (ix (P.pg c.frame.toNat).own) with dying := (P.setPg c.frame.toNat ⟨0, -2⟩).owns (P.pg c.frame.toNat).own }) := by
    simp only [PtD.reclaimL, hb, hp]
    rfl
  simp only [Bool.or_eq_false_iff, Bool.not_eq_false'] at hp
  obtain ⟨hp1', hd⟩ := hp
  have hown := hi2 (by rw [hp1']; rfl)
  have h0 := h.setP hk ⟨0, -2⟩ (pc := (Y.pc.setIfInBounds (c.frame.toNat * 2) (.int .i64 0)).setIfInBounds (c.frame.toNat * 2 + 1) (.int .i64 (-2))) (by
    have := h.pg.put pg_len (pg_at hk) (k := 0) (vs := pgV ⟨0, -2⟩) (by simp [pgV])
    exact this) ⟨⟨by decide, by decide⟩, ⟨by decide, by decide⟩⟩
  have hd0 := hdP Y P c.frame.toNat ⟨0, -2⟩ ((Y.pc.setIfInBounds (c.frame.toNat * 2) (.int .i64 0)).setIfInBounds (c.frame.toNat * 2 + 1) (.int .i64 (-2))) bx 66
  obtain ⟨Y1, eY⟩ : ∃ Y1, Y1 = ({ Y with pc := (Y.pc.setIfInBounds (c.frame.toNat * 2) (.int .i64 0)).setIfInBounds (c.frame.toNat * 2 + 1) (.int .i64 (-2)) } : Lay) := ⟨_, rfl⟩
  have e1 : Y1.gb = Y.gb := by rw [eY]
  have e2 : Y1.gc = Y.gc := by rw [eY]
  have e3 : Y1.G = Y.G := by rw [eY]
  rw [← eY] at h0 hd0
  refine runC ?_
  refine drawN 8 ?_
  refine runD ?_
  refine callD (fun wc hG => free_e wc) ?_
  refine runD ?_
  refine runC ?_
  refine callE (fun wc hG => guestO_e (bx := bx) (tx := 66) h0 (hG.here' (by rw [hd0]; (refine hpLe_cnt fun a => ?_; simp only [cntB_app, cntB_cons, cntB_nil]; omega))) hown) ?_
  rw [show ((P.pg c.frame.toNat).own - 1).toNat = ix (P.pg c.frame.toNat).own from rfl, e1]
  refine runC ?_
  refine callE (fun wc hG => owns_e (h0.partQ (bx := bx) (tx := 66) (show Here (Lay.hd Y1 _ bx _) wc from hG.here' (by rw [hd0]; (refine hpLe_cnt fun a => ?_; simp only [cntB_app, cntB_cons, cntB_nil]; omega)))) _) ?_
  refine runC ?_
  refine fin1 ?_
  rw [key]
  have hdy := h0.dyingG hi ((P.setPg c.frame.toNat ⟨0, -2⟩).owns (P.pg c.frame.toNat).own) (bx := bx) (tx := 66)
  obtain ⟨Y2, h2, hd2⟩ := hdy
  refine ⟨rfl, Y2, h2, hle_eq hd2 ?_⟩
  rw [(List.cons.inj hd0).1, e1, e2, e3, eY]
  simp only [putAt]
  (refine hpLe_cnt fun a => ?_; simp only [cntB_app, cntB_cons, cntB_nil]; omega)
theorem hostCallReclaim_e (h : OwnP P Y) (hm : P.may = true) (hN : HereN (Y.hd P bx 66) w) (cpu vm fr mid vc cc : Int) (hw : ClD.Wf ⟨4, vm, fr, mid, vc, cc⟩) : Fn Try.prog 25 [.pointer (some ⟨bx, 0, none⟩), .int .i64 cpu, clV ⟨4, vm, fr, mid, vc, cc⟩].toArray w ((Y.hd P bx 66).map (·.b)) (CallR bx 66 (P.reclaimL fr)) := by
  refine enterM _ hN Try.func25 ?_
  refine run ?_
  intro C
  refine runC ?_
  refine callM (Y.hd P bx 66) [⟨C, #[.int .i64 4, .int .i64 vm, .int .i64 fr, .int .i64 mid, .int .i64 vc, .int .i64 cc], 37⟩] (fun wc hG => reclaim_e h hm hG.hereN ⟨4, vm, fr, mid, vc, cc⟩ hw) (fun v hn hR => ?_) (by rw [hdY]; (refine perm_cnt fun a => ?_; simp only [cntB_app, cntB_cons, cntB_nil]; omega))
  refine runC ?_
  refine fin1 ?_
  exact hR.le (by (refine hpLe_cnt fun a => ?_; simp only [cntB_app, cntB_cons, cntB_nil]; omega))
end
end Go.Proofs.Ytjnndchkblnkgaa
