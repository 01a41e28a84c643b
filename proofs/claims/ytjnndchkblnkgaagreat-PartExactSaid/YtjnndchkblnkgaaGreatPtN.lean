/- Layer 18 (part): calls Share, Unshare, Donate: the reference's, and both. -/
import Derived.Test.YtjnndchkblnkgaaGreatPtM
namespace Go.Proofs.YtjnndchkblnkgaaGreat
open Go.RowKit
set_option linter.unusedVariables false
set_option linter.unusedSimpArgs false
set_option maxRecDepth 20000
attribute [local irreducible] Hy St Ops DH DHF
theorem Own.openedC {e sz : Nat} {v : Value} {h : Hp} {xs : List (List Value)} (hA : Own e sz v h xs) : ∃ p cap, v = .slice p xs.length cap ∧ xs.length ≤ cap := by
  rcases hA.2 with ⟨rfl, rfl, rfl⟩ | ⟨g, cap, cur, rfl, rfl, hrow⟩
  · exact ⟨_, _, rfl, Nat.le_refl _⟩
  · exact ⟨_, _, rfl, hrow.le⟩
section
variable {P : PtD} {Y : Lay} {bx tx : Nat} {w : World}
theorem hostUnshare_e (h : OwnP P Y) (hm : P.may = true) (hN : HereN (Y.hd P bx 26) w) (cpu : Int) (vm fr mid vc cc : Int) (hw : ClD.Wf ⟨2, vm, fr, mid, vc, cc⟩) : Fn Tryz.prog 31 [.pointer (some ⟨bx, 0, none⟩), .int .i64 cpu, clV ⟨2, vm, fr, mid, vc, cc⟩].toArray w ((Y.hd P bx 26).map (·.b)) (CallR bx 26 (P.unshareL fr)) := by
  refine enterM _ hN Tryz.func31 ?_
  refine run ?_
  intro B
  refine run ?_
  refine callE (fun wc hG => names_e ⟨2, vm, fr, mid, vc, cc⟩ wc) ?_
  refine runC ?_
  refine callE (fun wc hG => frameR_e (bx := bx) (tx := 26) h (hG.here' (by (refine hpLe_cnt fun a => ?_; simp only [cntB_app, cntB_cons, cntB_nil]; omega))) fr) ?_
  cases hb : PtD.btw fr 16 ((P.pages.length : Int) - 1)
  · refine runC ?_
    refine fin1 ?_
    simp [CallR, PtD.unshareL, hb]
  have hb' := hb
  simp only [PtD.btw, Bool.and_eq_true, decide_eq_true_eq] at hb'
  have hk : fr.toNat < P.pages.length := by omega
  have hp0 := h.p0' hk
  have hp1 := h.p1' hk
  have hsm := h.sm.pg
  have hpsz := h.psz
  have hok := PtD.may_ok.1 hm
  have hz := h.gsz
  have g4 := h.n.g4
  refine runC ?_
  refine drawAll ?_
  refine runDG ?_
  refine runC ?_
  refine drawN 7 ?_
  refine runD ?_
  refine runC ?_
  cases hA : decide ((P.pg fr.toNat).own = 0)
  · refine runC ?_
    refine fin1 ?_
    simp [CallR, PtD.unshareL, hb, hA]
  refine runC ?_
  refine st_cond _ rfl (fun hB => ?_) (fun hB => ?_)
  · refine runC ?_
    refine fin1 ?_
    simp only [PtD.unshareL, hb, hA, hB]
    rfl
  have hkey : P.unshareL fr = bif decide (0 < (P.pg fr.toNat).wit) then .ok ((P.setGs (ix (P.pg fr.toNat).wit) { P.gs (ix (P.pg fr.toNat).wit) with maps := PtD.delM (P.gs (ix (P.pg fr.toNat).wit)).maps fr }).setPg fr.toNat ⟨0, -2⟩) else .ok (P.setPg fr.toNat ⟨0, -2⟩) := by
    rw [PtD.unshareL, hb, hA, hB]; rfl
  rw [hkey]
  have hA' := hA
  simp only [decide_eq_true_eq] at hA'
  have hhost := hok.host _ hk hA'
  refine runC ?_
  refine st_cond _ rfl (fun hp => ?_) (fun hp => ?_)
  · have hp' := hp
    simp only [decide_eq_true_eq] at hp'
    have hv : 1 ≤ (P.pg fr.toNat).wit ∧ (P.pg fr.toNat).wit ≤ 4 := by
      rcases hhost with h1 | h1 | h1
      · omega
      · omega
      · simp only [PtD.lives, PtD.btw, Bool.and_eq_true, decide_eq_true_eq] at h1; exact h1.1
    have hi := ix_lt hv
    rw [hp]
    have n4 := h.g4' hi
    refine runC ?_
    refine drawN 10 ?_
    refine runD ?_
    rw [show ((P.pg fr.toNat).wit - 1).toNat = ix (P.pg fr.toNat).wit from rfl]
    refine runC ?_
    have hlen := (h.sm.vc (ix (P.pg fr.toNat).wit) (by omega)).2
    refine drawM 8 [0, 1, 2, 3, 4, 5, 6] [7] [] ?_
    refine runS ?_
    refine eCall (fun wc hG => del_e (P.gs (ix (P.pg fr.toNat).wit)).maps _ fr (h.slM (bx := bx) (tx := 26) hi (hG.here' (by (refine hpLe_cnt fun a => ?_; simp only [cntB_app, cntB_cons, cntB_nil]; omega)))) (by omega)) (own_some mp_all (by rw [List.length_map]; exact Nat.le_trans (List.length_filter_le _ _) (by omega))) ?_
    refine eNil ?_
    rintro mv hm' hA2
    simp only [DN]
    refine dNil ?_
    refine opsF ?_
    obtain ⟨r, g1, g2⟩ := ghs_upd Y.G hi
    refine ops_le (⟨B, #[.int .i64 2, .int .i64 vm, .int .i64 fr, .int .i64 mid, .int .i64 vc, .int .i64 cc], 33⟩ :: ⟨bx, #[Y.pv P, Y.gv P, Y.ov P], 26⟩ :: ⟨Y.pb, Y.pc, 55⟩ :: ⟨Y.gb, Y.gc, 62⟩ :: ⟨Y.ob, Y.oc, 64⟩ :: ((Y.G (ix (P.pg fr.toNat).wit)).hv ++ (hm' ++ r))) (by (refine hpLe_cnt fun a => ?_; have := HpLe.cnt g1 a; simp only [cntB_app, cntB_cons, cntB_nil] at *; omega)) ?_
    obtain ⟨q, cap, ev⟩ := hA2.opened
    subst ev
    refine runC ?_
    refine fin1 ?_
    have h2 := h.mapsX hi (PtD.delM (P.gs (ix (P.pg fr.toNat).wit)).maps fr) hA2 (fun x hx => (h.wf.gs (ix (P.pg fr.toNat).wit) (by omega)).2.2 x (List.mem_filter.1 hx).1) (Nat.le_trans (List.length_filter_le _ _) hlen)
    have h3 := h2.setP (f := fr.toNat) hk ⟨0, -2⟩ (pc := Y.pc.setIfInBounds (fr.toNat * 2 + 1) (.int .i64 (-2))) (by
      have := h.pg.put pg_len (pg_at hk) (k := 1) (vs := [.int .i64 (-2)]) (by simp)
      rw [hA'] at this
      exact this) ⟨⟨by decide, by decide⟩, ⟨by decide, by decide⟩⟩
    refine ⟨rfl, _, h3, hle_eq (hdP _ _ _ _ _ _ _) ?_⟩
    rw [(List.cons.inj (hdG Y P (ix (P.pg fr.toNat).wit) { P.gs (ix (P.pg fr.toNat).wit) with maps := PtD.delM (P.gs (ix (P.pg fr.toNat).wit)).maps fr } _ _ bx 26)).1]
    have g3 := g2 (Y.G (ix (P.pg fr.toNat).wit)).vv (.slice q (List.map mpV (PtD.delM (P.gs (ix (P.pg fr.toNat).wit)).maps fr)).length cap) (Y.G (ix (P.pg fr.toNat).wit)).hv hm'
    simp only [putAt]
    (refine hpLe_cnt fun a => ?_; have := HpLe.cnt g3 a; simp only [cntB_app, cntB_cons, cntB_nil] at *; omega)
  · rw [hp]
    refine runC ?_
    refine fin1 ?_
    have h1 := h.setP hk ⟨0, -2⟩ (pc := Y.pc.setIfInBounds (fr.toNat * 2 + 1) (.int .i64 (-2))) (by
      have := h.pg.put pg_len (pg_at hk) (k := 1) (vs := [.int .i64 (-2)]) (by simp)
      rw [hA'] at this
      exact this) ⟨⟨by decide, by decide⟩, ⟨by decide, by decide⟩⟩
    refine ⟨rfl, _, h1, ?_⟩
    rw [hdP]
    (refine hpLe_cnt fun a => ?_; simp only [cntB_app, cntB_cons, cntB_nil]; omega)
theorem hostShare_e (h : OwnP P Y) (hm : P.may = true) (hN : HereN (Y.hd P bx 26) w) (cpu : Int) (vm fr mid vc cc : Int) (hw : ClD.Wf ⟨1, vm, fr, mid, vc, cc⟩) : Fn Tryz.prog 31 [.pointer (some ⟨bx, 0, none⟩), .int .i64 cpu, clV ⟨1, vm, fr, mid, vc, cc⟩].toArray w ((Y.hd P bx 26).map (·.b)) (CallR bx 26 (P.shareL vm fr mid)) := by
  refine enterM _ hN Tryz.func31 ?_
  refine run ?_
  intro B
  refine run ?_
  refine callE (v := .bool false) (fun wc hG => names_e ⟨1, vm, fr, mid, vc, cc⟩ wc) ?_
  refine runC ?_
  refine callE (fun wc hG => frameR_e (bx := bx) (tx := 26) h (hG.here' (by (refine hpLe_cnt fun a => ?_; simp only [cntB_app, cntB_cons, cntB_nil]; omega))) fr) ?_
  cases hb : PtD.btw fr 16 ((P.pages.length : Int) - 1)
  · refine runC ?_
    refine fin1 ?_
    simp [CallR, PtD.shareL, hb]
  have hb' := hb
  simp only [PtD.btw, Bool.and_eq_true, decide_eq_true_eq] at hb'
  have hk : fr.toNat < P.pages.length := by omega
  have hp0 := h.p0' hk
  have hp1 := h.p1' hk
  have hsm := h.sm.pg
  have hpsz := h.psz
  have hok := PtD.may_ok.1 hm
  have hz := h.gsz
  have g4 := h.n.g4
  have hvm := hw.vm
  rcases Classical.em (vm = 0) with rfl | hv0
  · refine runC ?_
    refine drawAll ?_
    refine runDG ?_
    refine runC ?_
    refine drawN 7 ?_
    refine runD ?_
    refine runC ?_
    have hkey : P.shareL 0 fr mid = (bif !decide ((P.pg fr.toNat).own = 0) then .error 7 else bif !decide ((P.pg fr.toNat).wit = -2) then .error 4 else .ok (P.setPg fr.toNat ⟨0, -1⟩)) := by
      rw [PtD.shareL, hb]; rfl
    rw [hkey]
    cases hA : decide ((P.pg fr.toNat).own = 0)
    · refine runC ?_
      refine fin1 ?_
      rfl
    refine runC ?_
    cases hB : decide ((P.pg fr.toNat).wit = -2)
    · refine runC ?_
      refine fin1 ?_
      rfl
    refine runC ?_
    refine fin1 ?_
    have h1 := h.setP hk ⟨0, -1⟩ (pc := Y.pc.setIfInBounds (fr.toNat * 2 + 1) (.int .i64 (-1))) (by
      have := h.pg.put pg_len (pg_at hk) (k := 1) (vs := [.int .i64 (-1)]) (by simp)
      simp only [decide_eq_true_eq] at hA
      rw [hA] at this
      exact this) ⟨⟨by decide, by decide⟩, ⟨by decide, by decide⟩⟩
    refine ⟨rfl, _, h1, ?_⟩
    rw [hdP]
    (refine hpLe_cnt fun a => ?_; simp only [cntB_app, cntB_cons, cntB_nil]; omega)
  · have hv0' : decide (vm = 0) = false := by simp [hv0]
    have hbt : PtD.btw vm 1 4 = !(decide (vm < 1) || decide (4 < vm)) := by rw [Bool.eq_iff_iff]; simp [PtD.btw]
    refine runC ?_
    refine st_cond _ rfl (fun hp => ?_) (fun hp => ?_)
    · refine runC ?_
      refine fin1 ?_
      simp [hv0] at hp
      have hbf : PtD.btw vm 1 4 = false := by rw [hbt]; simp; omega
      simp [CallR, PtD.shareL, hb, hv0, hbf]
    have hbt2 : PtD.btw vm 1 4 = true := by
      rw [hbt]; simp [hv0] at hp; simp; omega
    have hv := hbt2
    simp only [PtD.btw, Bool.and_eq_true, decide_eq_true_eq] at hv
    refine runC ?_
    refine callEG (fun hg wc hG => num_e _ _ wc) ?_
    refine runC ?_
    refine st_cond _ rfl (fun hp => ?_) (fun hp => ?_)
    · refine runC ?_
      refine fin1 ?_
      have hmf : PtD.btw mid 0 15 = false := by
        simp [hv0] at hp; simp [PtD.btw]; omega
      simp [CallR, PtD.shareL, hb, hv0, hmf]
    have hmt : PtD.btw mid 0 15 = true := by
      simp [hv0] at hp; simp [PtD.btw]; omega
    have hkey : P.shareL vm fr mid = P.lendL vm fr mid ⟨0, vm⟩ := by
      rw [PtD.shareL, hb, hv0', hbt2, hmt]; rfl
    rw [hkey]
    have hi := ix_lt hv
    have n0 := h.g0 hi
    refine runC ?_
    refine drawAll ?_
    refine runDG ?_
    refine runC ?_
    refine st_cond _ rfl (fun hp => ?_) (fun hp => ?_)
    · refine runC ?_
      refine fin1 ?_
      simp [hv0] at hp
      have hlf : P.lives vm = false := by
        unfold PtD.lives
        rw [show (vm - 1).toNat = ix vm from rfl, hp]; simp
      simp [CallR, PtD.lendL, hlf]
    have hl : (P.gs (ix vm)).live = true := by
      simp [hv0] at hp; exact hp
    have hlv : P.lives vm = true := by
      unfold PtD.lives
      rw [hbt2, show (vm - 1).toNat = ix vm from rfl, hl]; rfl
    refine runC ?_
    refine drawN 7 ?_
    refine runD ?_
    refine runC ?_
    have hkey2 : P.lendL vm fr mid ⟨0, vm⟩ = bif !decide ((P.pg fr.toNat).own = 0) then .error 7 else bif !(decide ((P.pg fr.toNat).wit = -2) && !PtD.thereB (P.gs (ix vm)).maps mid) then .error 4
      else .ok ((P.setPg fr.toNat ⟨0, vm⟩).setGs (ix vm) { P.gs (ix vm) with maps := PtD.insM (P.gs (ix vm)).maps mid fr }) := by
      rw [PtD.lendL, hlv]; rfl
    rw [hkey2]
    cases hA : decide ((P.pg fr.toNat).own = 0)
    · refine runC ?_
      refine fin1 ?_
      rfl
    refine runC ?_
    cases hB : decide ((P.pg fr.toNat).wit = -2)
    · refine runC ?_
      refine fin1 ?_
      rfl
    refine runC ?_
    refine st_cond _ rfl (fun hp => by simp [hv0] at hp) (fun _ => ?_)
    refine runC ?_
    refine drawN 8 ?_
    refine runD ?_
    rw [show (vm - 1).toNat = ix vm from rfl]
    refine runC ?_
    have n4 := h.g4' hi
    refine drawAll ?_
    refine runD ?_
    refine callD (fun wc hG => mappedM_e (P.gs (ix vm)).maps (Y.G (ix vm)).mv wc (h.slM (bx := bx) (tx := 26) hi (hG.here' (by (refine hpLe_cnt fun a => ?_; simp only [cntB_app, cntB_cons, cntB_nil]; omega)))) mid) ?_
    rw [PtD.mappedM_there (PtD.may_sorted hm hi)]
    refine runD ?_
    refine runC ?_
    cases ht : PtD.thereB (P.gs (ix vm)).maps mid
    rotate_left
    · rw [if_pos rfl]
      refine st_cond _ rfl (fun _ => ?_) (fun hp => by simp at hp)
      refine runC ?_
      refine fin1 ?_
      rfl
    rw [if_neg (by decide)]
    refine runC ?_
    obtain ⟨q0, c0, ev0, hc0⟩ := (h.mp _ hi).openedC
    rw [List.length_map] at ev0 hc0
    rw [ev0] at n4
    have hlen := PtD.may_maps16 hm hi
    refine drawM 11 [0, 1, 2, 3, 4, 5, 6, 7, 8, 9] [10] [] ?_
    refine runS ?_
    refine eCall (fun wc hG => put_e (P.gs (ix vm)).maps q0 c0 ⟨mid, fr⟩ (ev0 ▸ h.slM (bx := bx) (tx := 26) hi (hG.here' (by (refine hpLe_cnt fun a => ?_; simp only [cntB_app, cntB_cons, cntB_nil]; omega)))) hc0 (by omega)) (own_some mp_all (by rw [List.length_map, PtD.insM_len]; omega)) ?_
    refine eNil ?_
    rintro mv hm' hA2
    simp only [DN]
    refine dNil ?_
    refine opsF ?_
    obtain ⟨r, g1, g2⟩ := ghs_upd Y.G hi
    refine ops_le (⟨B, #[.int .i64 1, .int .i64 vm, .int .i64 fr, .int .i64 mid, .int .i64 vc, .int .i64 cc], 33⟩ :: ⟨bx, #[Y.pv P, Y.gv P, Y.ov P], 26⟩ :: ⟨Y.pb, Y.pc, 55⟩ :: ⟨Y.gb, Y.gc, 62⟩ :: ⟨Y.ob, Y.oc, 64⟩ :: ((Y.G (ix vm)).hv ++ (hm' ++ r))) (by (refine hpLe_cnt fun a => ?_; have := HpLe.cnt g1 a; simp only [cntB_app, cntB_cons, cntB_nil] at *; omega)) ?_
    obtain ⟨q, cap, ev⟩ := hA2.opened
    subst ev
    refine runC ?_
    refine fin1 ?_
    have hwf := (h.wf.gs _ (show ix vm < P.guests.length by omega)).2.2
    have h1 := h.setP hk ⟨0, vm⟩ (pc := Y.pc.setIfInBounds (fr.toNat * 2 + 1) (.int .i64 vm)) (by
      have := h.pg.put pg_len (pg_at hk) (k := 1) (vs := [.int .i64 vm]) (by simp)
      simp only [decide_eq_true_eq] at hA
      rw [hA] at this
      exact this) ⟨(show I64 0 from ⟨by decide, by decide⟩), hvm⟩
    have hd1 := hdP Y P fr.toNat ⟨0, vm⟩ (Y.pc.setIfInBounds (fr.toNat * 2 + 1) (.int .i64 vm)) bx 26
    obtain ⟨Y1, eY⟩ : ∃ Y1, Y1 = ({ Y with pc := Y.pc.setIfInBounds (fr.toNat * 2 + 1) (.int .i64 vm) } : Lay) := ⟨_, rfl⟩
    rw [← eY] at h1 hd1
    obtain ⟨Y2, h2, hd2⟩ := h1.mapsG hi (PtD.insM (P.gs (ix vm)).maps mid fr) hA2 (fun y hy => by
      rcases PtD.insM_mem hy with h | rfl
      · exact hwf y h
      · exact ⟨hw.mid, hw.frame⟩) (by rw [PtD.insM_len]; omega) (bx := bx) (tx := 26)
    refine ⟨rfl, Y2, h2, hle_eq hd2 ?_⟩
    rw [(List.cons.inj hd1).1, eY]
    have g3 := g2 (Y.G (ix vm)).vv (.slice q (List.map mpV (PtD.insM (P.gs (ix vm)).maps mid fr)).length cap) (Y.G (ix vm)).hv hm'
    simp only [putAt]
    (refine hpLe_cnt fun a => ?_; have := HpLe.cnt g3 a; simp only [cntB_app, cntB_cons, cntB_nil] at *; omega)
theorem hostDonate_e (h : OwnP P Y) (hm : P.may = true) (hN : HereN (Y.hd P bx 26) w) (cpu : Int) (vm fr mid vc cc : Int) (hw : ClD.Wf ⟨3, vm, fr, mid, vc, cc⟩) : Fn Tryz.prog 31 [.pointer (some ⟨bx, 0, none⟩), .int .i64 cpu, clV ⟨3, vm, fr, mid, vc, cc⟩].toArray w ((Y.hd P bx 26).map (·.b)) (CallR bx 26 (P.donateL vm fr mid)) := by
  have hvm := hw.vm
  have hbt : PtD.btw vm 1 4 = !(decide (vm < 1) || decide (4 < vm)) := by rw [Bool.eq_iff_iff]; simp [PtD.btw]
  have hz := h.gsz
  have g4 := h.n.g4
  refine enterM _ hN Tryz.func31 ?_
  refine run ?_
  intro B
  refine run ?_
  refine callE (v := .bool true) (fun wc hG => names_e ⟨3, vm, fr, mid, vc, cc⟩ wc) ?_
  refine runC ?_
  refine st_cond _ rfl (fun hp => ?_) (fun hp => ?_)
  · refine runC ?_
    refine fin1 ?_
    rw [Bool.true_and] at hp
    simp [CallR, PtD.donateL, hbt, hp]
  have hbt2 : PtD.btw vm 1 4 = true := by rw [hbt]; rw [Bool.true_and] at hp; rw [hp]; rfl
  have hv := hbt2
  simp only [PtD.btw, Bool.and_eq_true, decide_eq_true_eq] at hv
  refine runC ?_
  refine callEG (fun hg wc hG => frameR_e (bx := bx) (tx := 26) h (hG.here' (by (refine hpLe_cnt fun a => ?_; simp only [cntB_app, cntB_cons, cntB_nil]; omega))) fr) ?_
  refine runC ?_
  cases hb : PtD.btw fr 16 ((P.pages.length : Int) - 1)
  · refine runC ?_
    refine fin1 ?_
    simp [CallR, PtD.donateL, hbt2, hb]
  have hb' := hb
  simp only [PtD.btw, Bool.and_eq_true, decide_eq_true_eq] at hb'
  have hk : fr.toNat < P.pages.length := by omega
  have hp0 := h.p0' hk
  have hp1 := h.p1' hk
  have hsm := h.sm.pg
  have hpsz := h.psz
  have hok := PtD.may_ok.1 hm
  refine runC ?_
  refine callEG (fun hg wc hG => num_e _ _ wc) ?_
  refine runC ?_
  refine st_cond _ rfl (fun hp => ?_) (fun hp => ?_)
  · refine runC ?_
    refine fin1 ?_
    have hmf : PtD.btw mid 0 15 = false := by
      simp at hp; simp [PtD.btw]; omega
    simp [CallR, PtD.donateL, hbt2, hb, hmf]
  have hmt : PtD.btw mid 0 15 = true := by
    simp at hp; simp [PtD.btw]; omega
  have hkey : P.donateL vm fr mid = P.lendL vm fr mid ⟨vm, -2⟩ := by
    rw [PtD.donateL, hb, hbt2, hmt]; rfl
  rw [hkey]
  have hi := ix_lt hv
  have n0 := h.g0 hi
  refine runC ?_
  refine drawAll ?_
  refine runDG ?_
  refine runC ?_
  refine st_cond _ rfl (fun hp => ?_) (fun hp => ?_)
  · refine runC ?_
    refine fin1 ?_
    simp at hp
    have hlf : P.lives vm = false := by
      unfold PtD.lives
      rw [show (vm - 1).toNat = ix vm from rfl, hp]; simp
    simp [CallR, PtD.lendL, hlf]
  have hl : (P.gs (ix vm)).live = true := by
    simp at hp; exact hp
  have hlv : P.lives vm = true := by
    unfold PtD.lives
    rw [hbt2, show (vm - 1).toNat = ix vm from rfl, hl]; rfl
  refine runC ?_
  refine drawN 7 ?_
  refine runD ?_
  refine runC ?_
  have hkey2 : P.lendL vm fr mid ⟨vm, -2⟩ = bif !decide ((P.pg fr.toNat).own = 0) then .error 7 else bif !(decide ((P.pg fr.toNat).wit = -2) && !PtD.thereB (P.gs (ix vm)).maps mid) then .error 4
    else .ok ((P.setPg fr.toNat ⟨vm, -2⟩).setGs (ix vm) { P.gs (ix vm) with maps := PtD.insM (P.gs (ix vm)).maps mid fr }) := by
    rw [PtD.lendL, hlv]; rfl
  rw [hkey2]
  cases hA : decide ((P.pg fr.toNat).own = 0)
  · refine runC ?_
    refine fin1 ?_
    rfl
  refine runC ?_
  cases hB : decide ((P.pg fr.toNat).wit = -2)
  · refine runC ?_
    refine fin1 ?_
    rfl
  refine runC ?_
  refine drawN 8 ?_
  refine runD ?_
  rw [show (vm - 1).toNat = ix vm from rfl]
  refine runC ?_
  have n4 := h.g4' hi
  refine drawAll ?_
  refine runD ?_
  refine callD (fun wc hG => mappedM_e (P.gs (ix vm)).maps (Y.G (ix vm)).mv wc (h.slM (bx := bx) (tx := 26) hi (hG.here' (by (refine hpLe_cnt fun a => ?_; simp only [cntB_app, cntB_cons, cntB_nil]; omega)))) mid) ?_
  rw [PtD.mappedM_there (PtD.may_sorted hm hi)]
  refine runD ?_
  refine runC ?_
  cases ht : PtD.thereB (P.gs (ix vm)).maps mid
  rotate_left
  · rw [if_pos rfl]
    refine st_cond _ rfl (fun _ => ?_) (fun hp => by simp at hp)
    refine runC ?_
    refine fin1 ?_
    rfl
  rw [if_neg (by decide)]
  refine runC ?_
  obtain ⟨q0, c0, ev0, hc0⟩ := (h.mp _ hi).openedC
  rw [List.length_map] at ev0 hc0
  rw [ev0] at n4
  have hlen := PtD.may_maps16 hm hi
  refine drawM 11 [0, 1, 2, 3, 4, 5, 6, 7, 8, 9] [10] [] ?_
  refine runS ?_
  refine eCall (fun wc hG => put_e (P.gs (ix vm)).maps q0 c0 ⟨mid, fr⟩ (ev0 ▸ h.slM (bx := bx) (tx := 26) hi (hG.here' (by (refine hpLe_cnt fun a => ?_; simp only [cntB_app, cntB_cons, cntB_nil]; omega)))) hc0 (by omega)) (own_some mp_all (by rw [List.length_map, PtD.insM_len]; omega)) ?_
  refine eNil ?_
  rintro mv hm' hA2
  simp only [DN]
  refine dNil ?_
  refine opsF ?_
  obtain ⟨r, g1, g2⟩ := ghs_upd Y.G hi
  refine ops_le (⟨B, #[.int .i64 3, .int .i64 vm, .int .i64 fr, .int .i64 mid, .int .i64 vc, .int .i64 cc], 33⟩ :: ⟨bx, #[Y.pv P, Y.gv P, Y.ov P], 26⟩ :: ⟨Y.pb, Y.pc, 55⟩ :: ⟨Y.gb, Y.gc, 62⟩ :: ⟨Y.ob, Y.oc, 64⟩ :: ((Y.G (ix vm)).hv ++ (hm' ++ r))) (by (refine hpLe_cnt fun a => ?_; have := HpLe.cnt g1 a; simp only [cntB_app, cntB_cons, cntB_nil] at *; omega)) ?_
  obtain ⟨q, cap, ev⟩ := hA2.opened
  subst ev
  refine runC ?_
  refine fin1 ?_
  have hwf := (h.wf.gs _ (show ix vm < P.guests.length by omega)).2.2
  have h1 := h.setP hk ⟨vm, -2⟩ (pc := Y.pc.setIfInBounds (fr.toNat * 2) (.int .i64 vm)) (by
    have := h.pg.put pg_len (pg_at hk) (k := 0) (vs := [.int .i64 vm]) (by simp)
    simp only [decide_eq_true_eq] at hB
    rw [hB] at this
    exact this) ⟨hvm, (show I64 (-2) from ⟨by decide, by decide⟩)⟩
  have hd1 := hdP Y P fr.toNat ⟨vm, -2⟩ (Y.pc.setIfInBounds (fr.toNat * 2) (.int .i64 vm)) bx 26
  obtain ⟨Y1, eY⟩ : ∃ Y1, Y1 = ({ Y with pc := Y.pc.setIfInBounds (fr.toNat * 2) (.int .i64 vm) } : Lay) := ⟨_, rfl⟩
  rw [← eY] at h1 hd1
  obtain ⟨Y2, h2, hd2⟩ := h1.mapsG hi (PtD.insM (P.gs (ix vm)).maps mid fr) hA2 (fun y hy => by
    rcases PtD.insM_mem hy with h | rfl
    · exact hwf y h
    · exact ⟨hw.mid, hw.frame⟩) (by rw [PtD.insM_len]; omega) (bx := bx) (tx := 26)
  refine ⟨rfl, Y2, h2, hle_eq hd2 ?_⟩
  rw [(List.cons.inj hd1).1, eY]
  have g3 := g2 (Y.G (ix vm)).vv (.slice q (List.map mpV (PtD.insM (P.gs (ix vm)).maps mid fr)).length cap) (Y.G (ix vm)).hv hm'
  simp only [putAt]
  (refine hpLe_cnt fun a => ?_; have := HpLe.cnt g3 a; simp only [cntB_app, cntB_cons, cntB_nil] at *; omega)
theorem lendL_ne {P : PtD} {vm fr mid e : Int} {x : PgD} (h : P.lendL vm fr mid x = .error e) : e ≠ 0 := by
  unfold PtD.lendL at h
  revert h
  cases P.lives vm <;> cases decide ((P.pg fr.toNat).own = 0) <;> cases (decide ((P.pg fr.toNat).wit = -2) && !PtD.thereB (P.gs (ix vm)).maps mid) <;> (intro h; cases h; try decide)
theorem hostCallShare_e (h : OwnP P Y) (hm : P.may = true) (hN : HereN (Y.hd P bx 67) w) (cpu vm fr mid vc cc : Int) (hw : ClD.Wf ⟨1, vm, fr, mid, vc, cc⟩) : Fn Tryz.prog 30 [.pointer (some ⟨bx, 0, none⟩), .int .i64 cpu, clV ⟨1, vm, fr, mid, vc, cc⟩].toArray w ((Y.hd P bx 67).map (·.b)) (CallR bx 67 (P.shareL vm fr mid)) := by
  refine enterM _ hN Tryz.func30 ?_
  refine run ?_
  intro C
  refine runC ?_
  refine callM (Y.hd P bx 67) [⟨C, #[.int .i64 1, .int .i64 vm, .int .i64 fr, .int .i64 mid, .int .i64 vc, .int .i64 cc], 33⟩] (fun wc hG => share_e h hm hG.hereN ⟨1, vm, fr, mid, vc, cc⟩ hw) (fun v hn hR => ?_) (by rw [hdY]; (refine perm_cnt fun a => ?_; simp only [cntB_app, cntB_cons, cntB_nil]; omega))
  refine runC ?_
  refine fin1 ?_
  exact hR.le (by (refine hpLe_cnt fun a => ?_; simp only [cntB_app, cntB_cons, cntB_nil]; omega))
theorem kindShare : KindOk 1 := by
  refine kind_host (fun P c cpu => P.shareL c.vm c.frame c.mid) ?_ rfl rfl rfl ?_ ?_
  · intro P c cpu e h
    dsimp only [PtD.shareL] at h
    revert h
    cases PtD.btw c.frame 16 ((P.pages.length : Int) - 1)
    · intro h; cases h; decide
    cases decide (c.vm = 0)
    · cases (!PtD.btw c.vm 1 4 || !PtD.btw c.mid 0 15)
      · intro h; exact lendL_ne h
      · intro h; cases h; decide
    · cases decide ((P.pg c.frame.toNat).own = 0) <;> cases decide ((P.pg c.frame.toNat).wit = -2) <;> (intro h; cases h; try decide)
  · rintro P Y bx w ⟨_, vm, fr, mid, vc, cc⟩ cpu rfl hw hm hc hv hO hN
    exact hostCallShare_e hO hm hN cpu vm fr mid vc cc hw
  · rintro P Y bx w ⟨_, vm, fr, mid, vc, cc⟩ cpu rfl hw hm hc hv hO hN
    exact hostShare_e hO hm hN cpu vm fr mid vc cc hw
theorem hostCallUnshare_e (h : OwnP P Y) (hm : P.may = true) (hN : HereN (Y.hd P bx 67) w) (cpu vm fr mid vc cc : Int) (hw : ClD.Wf ⟨2, vm, fr, mid, vc, cc⟩) : Fn Tryz.prog 30 [.pointer (some ⟨bx, 0, none⟩), .int .i64 cpu, clV ⟨2, vm, fr, mid, vc, cc⟩].toArray w ((Y.hd P bx 67).map (·.b)) (CallR bx 67 (P.unshareL fr)) := by
  refine enterM _ hN Tryz.func30 ?_
  refine run ?_
  intro C
  refine runC ?_
  refine callM (Y.hd P bx 67) [⟨C, #[.int .i64 2, .int .i64 vm, .int .i64 fr, .int .i64 mid, .int .i64 vc, .int .i64 cc], 33⟩] (fun wc hG => unshare_e h hm hG.hereN ⟨2, vm, fr, mid, vc, cc⟩ hw) (fun v hn hR => ?_) (by rw [hdY]; (refine perm_cnt fun a => ?_; simp only [cntB_app, cntB_cons, cntB_nil]; omega))
  refine runC ?_
  refine fin1 ?_
  exact hR.le (by (refine hpLe_cnt fun a => ?_; simp only [cntB_app, cntB_cons, cntB_nil]; omega))
theorem kindUnshare : KindOk 2 := by
  refine kind_host (fun P c cpu => P.unshareL c.frame) ?_ rfl rfl rfl ?_ ?_
  · intro P c cpu e h
    dsimp only [PtD.unshareL] at h
    revert h
    cases PtD.btw c.frame 16 ((P.pages.length : Int) - 1) <;> cases decide ((P.pg c.frame.toNat).own = 0) <;> cases decide ((P.pg c.frame.toNat).wit = -2) <;> cases decide (0 < (P.pg c.frame.toNat).wit) <;> (intro h; cases h; try decide)
  · rintro P Y bx w ⟨_, vm, fr, mid, vc, cc⟩ cpu rfl hw hm hc hv hO hN
    exact hostCallUnshare_e hO hm hN cpu vm fr mid vc cc hw
  · rintro P Y bx w ⟨_, vm, fr, mid, vc, cc⟩ cpu rfl hw hm hc hv hO hN
    exact hostUnshare_e hO hm hN cpu vm fr mid vc cc hw
theorem hostCallDonate_e (h : OwnP P Y) (hm : P.may = true) (hN : HereN (Y.hd P bx 67) w) (cpu vm fr mid vc cc : Int) (hw : ClD.Wf ⟨3, vm, fr, mid, vc, cc⟩) : Fn Tryz.prog 30 [.pointer (some ⟨bx, 0, none⟩), .int .i64 cpu, clV ⟨3, vm, fr, mid, vc, cc⟩].toArray w ((Y.hd P bx 67).map (·.b)) (CallR bx 67 (P.donateL vm fr mid)) := by
  refine enterM _ hN Tryz.func30 ?_
  refine run ?_
  intro C
  refine runC ?_
  refine callM (Y.hd P bx 67) [⟨C, #[.int .i64 3, .int .i64 vm, .int .i64 fr, .int .i64 mid, .int .i64 vc, .int .i64 cc], 33⟩] (fun wc hG => donate_e h hm hG.hereN ⟨3, vm, fr, mid, vc, cc⟩ hw) (fun v hn hR => ?_) (by rw [hdY]; (refine perm_cnt fun a => ?_; simp only [cntB_app, cntB_cons, cntB_nil]; omega))
  refine runC ?_
  refine fin1 ?_
  exact hR.le (by (refine hpLe_cnt fun a => ?_; simp only [cntB_app, cntB_cons, cntB_nil]; omega))
theorem kindDonate : KindOk 3 := by
  refine kind_host (fun P c cpu => P.donateL c.vm c.frame c.mid) ?_ rfl rfl rfl ?_ ?_
  · intro P c cpu e h
    dsimp only [PtD.donateL] at h
    revert h
    cases (!PtD.btw c.vm 1 4 || !PtD.btw c.frame 16 ((P.pages.length : Int) - 1) || !PtD.btw c.mid 0 15)
    · intro h; exact lendL_ne h
    · intro h; cases h; decide
  · rintro P Y bx w ⟨_, vm, fr, mid, vc, cc⟩ cpu rfl hw hm hc hv hO hN
    exact hostCallDonate_e hO hm hN cpu vm fr mid vc cc hw
  · rintro P Y bx w ⟨_, vm, fr, mid, vc, cc⟩ cpu rfl hw hm hc hv hO hN
    exact hostDonate_e hO hm hN cpu vm fr mid vc cc hw
end
end Go.Proofs.YtjnndchkblnkgaaGreat
