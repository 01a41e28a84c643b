/- Layer 18 (part): the program's share, unshare, donate. -/
import Derived.Test.YtjnndchkblnkgaaPtK
namespace Go.Proofs.Ytjnndchkblnkgaa
open Go.RowKit
set_option linter.unusedVariables false
set_option linter.unusedSimpArgs false
set_option maxRecDepth 20000
attribute [local irreducible] Hy St Ops DH DHF
namespace PtD
def shareL (P : PtD) (vm fr mid : Int) : Except Int PtD :=
  bif !btw fr 16 ((P.pages.length : Int) - 1) then .error 2 else
  bif decide (vm = 0) then (bif !decide ((P.pg fr.toNat).own = 0) then .error 7 else bif !decide ((P.pg fr.toNat).wit = -2) then .error 4 else .ok (P.setPg fr.toNat ⟨0, -1⟩))
  else bif !btw vm 1 4 || !btw mid 0 15 then .error 2 else P.lendL vm fr mid ⟨0, vm⟩
def donateL (P : PtD) (vm fr mid : Int) : Except Int PtD :=
  bif !btw vm 1 4 || !btw fr 16 ((P.pages.length : Int) - 1) || !btw mid 0 15 then .error 2 else P.lendL vm fr mid ⟨vm, -2⟩
def unshareL (P : PtD) (fr : Int) : Except Int PtD :=
  bif !btw fr 16 ((P.pages.length : Int) - 1) then .error 2 else bif !decide ((P.pg fr.toNat).own = 0) then .error 7 else bif decide ((P.pg fr.toNat).wit = -2) then .error 6
  else bif decide (0 < (P.pg fr.toNat).wit) then .ok ((P.setGs (ix (P.pg fr.toNat).wit) { P.gs (ix (P.pg fr.toNat).wit) with maps := delM (P.gs (ix (P.pg fr.toNat).wit)).maps fr }).setPg fr.toNat ⟨0, -2⟩)
  else .ok (P.setPg fr.toNat ⟨0, -2⟩)
end PtD
section
variable {P : PtD} {Y : Lay} {bx tx : Nat} {w : World}
theorem share_e (h : OwnP P Y) (hm : P.may = true) (hN : HereN (Y.hd P bx 66) w) (c : ClD) (hw : c.Wf) : Fn Try.prog 42 [.pointer (some ⟨bx, 0, none⟩), clV c].toArray w ((Y.hd P bx 66).map (·.b)) (CallR bx 66 (P.shareL c.vm c.frame c.mid)) := by
  refine enterM _ hN Try.func42 ?_
  refine run ?_
  intro C
  refine run ?_
  refine callE (fun wc hG => framed_e (bx := bx) (tx := 66) h (hG.here' (by (refine hpLe_cnt fun a => ?_; simp only [cntB_app, cntB_cons, cntB_nil]; omega))) c.frame) ?_
  cases hb : PtD.btw c.frame 16 ((P.pages.length : Int) - 1)
  · refine runC ?_
    refine fin1 ?_
    simp [CallR, PtD.shareL, hb]
  have hb' := hb
  simp only [PtD.btw, Bool.and_eq_true, decide_eq_true_eq] at hb'
  have hk : c.frame.toNat < P.pages.length := by omega
  have hp0 := h.p0' hk
  have hp1 := h.p1' hk
  have hsm := h.sm.pg
  have hpsz := h.psz
  refine runC ?_
  refine st_cond _ rfl (fun hp => ?_) (fun hp => ?_)
  · have hkey : P.shareL c.vm c.frame c.mid = (bif !decide ((P.pg c.frame.toNat).own = 0) then .error 7 else bif !decide ((P.pg c.frame.toNat).wit = -2) then .error 4 else .ok (P.setPg c.frame.toNat ⟨0, -1⟩)) := by
      rw [PtD.shareL, hb, hp]; rfl
    rw [hkey]
    refine runC ?_
    refine drawN 8 ?_
    refine runD ?_
    refine runC ?_
    refine drawN 12 ?_
    refine runD ?_
    refine callD (fun wc hG => unless_e _ _ wc) ?_
    refine runD ?_
    refine callD (fun wc hG => unless_e _ _ wc) ?_
    refine runD ?_
    refine run ?_
    intro F
    refine callE (fun wc hG => first_e [_, _] _ (lits hG mh [_, _] rfl rfl (by simp))) ?_
    cases hA : decide ((P.pg c.frame.toNat).own = 0)
    · rw [show firstL [bif false then 0 else 7, bif decide ((P.pg c.frame.toNat).wit = -2) then 0 else 4] = 7 from rfl]
      refine runC ?_
      refine fin1 ?_
      rfl
    cases hB : decide ((P.pg c.frame.toNat).wit = -2)
    · rw [show firstL [bif true then 0 else 7, bif false then 0 else 4] = 4 from rfl]
      refine runC ?_
      refine fin1 ?_
      rfl
    rw [show firstL [bif true then 0 else 7, bif true then 0 else 4] = 0 from rfl]
    refine runC ?_
    refine fin1 ?_
    have h1 := h.setP hk ⟨0, -1⟩ (pc := Y.pc.setIfInBounds (c.frame.toNat * 2 + 1) (.int .i64 (-1))) (by
      have := h.pg.put pg_len (pg_at hk) (k := 1) (vs := [.int .i64 (-1)]) (by simp)
      simp only [decide_eq_true_eq] at hA
      rw [hA] at this
      exact this) ⟨⟨by decide, by decide⟩, ⟨by decide, by decide⟩⟩
    refine ⟨rfl, _, h1, ?_⟩
    rw [hdP]
    (refine hpLe_cnt fun a => ?_; simp only [cntB_app, cntB_cons, cntB_nil]; omega)
  · have hkey : P.shareL c.vm c.frame c.mid = (bif !PtD.btw c.vm 1 4 || !PtD.btw c.mid 0 15 then .error 2 else P.lendL c.vm c.frame c.mid ⟨0, c.vm⟩) := by
      rw [PtD.shareL, hb, hp]; rfl
    rw [hkey]
    refine runC ?_
    refine drawN 6 ?_
    refine runD ?_
    refine callD (fun wc hG => machined_e _ wc) ?_
    refine runD ?_
    refine callD (fun wc hG => middled_e _ wc) ?_
    refine runD ?_
    refine run ?_
    intro F
    refine callE (fun wc hG => first_e [_, _] _ (lits hG mh [_, _] rfl rfl (by simp))) ?_
    cases hA : PtD.btw c.vm 1 4
    · rw [show firstL [bif false then 0 else 2, bif PtD.btw c.mid 0 15 then 0 else 2] = 2 from rfl]
      refine runC ?_
      refine fin1 ?_
      rfl
    cases hB : PtD.btw c.mid 0 15
    · rw [show firstL [bif true then 0 else 2, bif false then 0 else 2] = 2 from rfl]
      refine runC ?_
      refine fin1 ?_
      rfl
    rw [show firstL [bif true then 0 else 2, bif true then 0 else 2] = 0 from rfl]
    have hA' := hA
    simp only [PtD.btw, Bool.and_eq_true, decide_eq_true_eq] at hA'
    refine runC ?_
    refine ops_le (Y.hd P bx 66 ++ [⟨C, #[.int .i64 c.kind, .int .i64 c.vm, .int .i64 c.frame, .int .i64 c.mid, .int .i64 c.vcpu, .int .i64 c.ccpu], 37⟩]) (by (refine hpLe_cnt fun a => ?_; simp only [cntB_app, cntB_cons, cntB_nil]; omega)) ?_
    refine callM (Y.hd P bx 66) [⟨C, #[.int .i64 c.kind, .int .i64 c.vm, .int .i64 c.frame, .int .i64 c.mid, .int .i64 c.vcpu, .int .i64 c.ccpu], 37⟩] (fun wc hG => lend_e h hm hG.hereN c hw ⟨0, c.vm⟩ ⟨(show I64 0 from ⟨by decide, by decide⟩), hw.vm⟩ hb hB) (fun v hn hR => ?_) (.refl _)
    refine runC ?_
    refine fin1 ?_
    exact hR.le (by (refine hpLe_cnt fun a => ?_; simp only [cntB_app, cntB_cons, cntB_nil]; omega))
theorem donate_e (h : OwnP P Y) (hm : P.may = true) (hN : HereN (Y.hd P bx 66) w) (c : ClD) (hw : c.Wf) : Fn Try.prog 44 [.pointer (some ⟨bx, 0, none⟩), clV c].toArray w ((Y.hd P bx 66).map (·.b)) (CallR bx 66 (P.donateL c.vm c.frame c.mid)) := by
  refine enterM _ hN Try.func44 ?_
  refine run ?_
  intro C
  refine run ?_
  refine drawN 10 ?_
  refine runD ?_
  refine callD (fun wc hG => machined_e _ wc) ?_
  refine runD ?_
  refine callD (fun wc hG => framed_e (bx := bx) (tx := 66) h (hG.here' (by (refine hpLe_cnt fun a => ?_; simp only [cntB_app, cntB_cons, cntB_nil]; omega))) c.frame) ?_
  refine runD ?_
  refine callD (fun wc hG => middled_e _ wc) ?_
  refine runD ?_
  refine run ?_
  intro F
  refine callE (fun wc hG => first_e [_, _, _] _ (lits hG mh [_, _, _] rfl rfl (by simp))) ?_
  cases hA : PtD.btw c.vm 1 4
  · rw [show firstL [bif false then 0 else 2, bif PtD.btw c.frame 16 ((P.pages.length : Int) - 1) then 0 else 2, bif PtD.btw c.mid 0 15 then 0 else 2] = 2 from rfl]
    refine runC ?_
    refine fin1 ?_
    simp [CallR, PtD.donateL, hA]
  cases hb : PtD.btw c.frame 16 ((P.pages.length : Int) - 1)
  · rw [show firstL [bif true then 0 else 2, bif false then 0 else 2, bif PtD.btw c.mid 0 15 then 0 else 2] = 2 from rfl]
    refine runC ?_
    refine fin1 ?_
    simp [CallR, PtD.donateL, hA, hb]
  cases hB : PtD.btw c.mid 0 15
  · rw [show firstL [bif true then 0 else 2, bif true then 0 else 2, bif false then 0 else 2] = 2 from rfl]
    refine runC ?_
    refine fin1 ?_
    simp [CallR, PtD.donateL, hA, hb, hB]
  rw [show firstL [bif true then 0 else 2, bif true then 0 else 2, bif true then 0 else 2] = 0 from rfl]
  have hkey : P.donateL c.vm c.frame c.mid = P.lendL c.vm c.frame c.mid ⟨c.vm, -2⟩ := by rw [PtD.donateL, hA, hb, hB]; rfl
  rw [hkey]
  refine runC ?_
  refine ops_le (Y.hd P bx 66 ++ [⟨C, #[.int .i64 c.kind, .int .i64 c.vm, .int .i64 c.frame, .int .i64 c.mid, .int .i64 c.vcpu, .int .i64 c.ccpu], 37⟩]) (by (refine hpLe_cnt fun a => ?_; simp only [cntB_app, cntB_cons, cntB_nil]; omega)) ?_
  refine callM (Y.hd P bx 66) [⟨C, #[.int .i64 c.kind, .int .i64 c.vm, .int .i64 c.frame, .int .i64 c.mid, .int .i64 c.vcpu, .int .i64 c.ccpu], 37⟩] (fun wc hG => lend_e h hm hG.hereN c hw ⟨c.vm, -2⟩ ⟨hw.vm, (show I64 (-2) from ⟨by decide, by decide⟩)⟩ hb hB) (fun v hn hR => ?_) (.refl _)
  refine runC ?_
  refine fin1 ?_
  exact hR.le (by (refine hpLe_cnt fun a => ?_; simp only [cntB_app, cntB_cons, cntB_nil]; omega))
theorem unshare_e (h : OwnP P Y) (hm : P.may = true) (hN : HereN (Y.hd P bx 66) w) (c : ClD) (hw : c.Wf) : Fn Try.prog 43 [.pointer (some ⟨bx, 0, none⟩), clV c].toArray w ((Y.hd P bx 66).map (·.b)) (CallR bx 66 (P.unshareL c.frame)) := by
  refine enterM _ hN Try.func43 ?_
  refine run ?_
  intro C
  refine run ?_
  refine callE (fun wc hG => framed_e (bx := bx) (tx := 66) h (hG.here' (by (refine hpLe_cnt fun a => ?_; simp only [cntB_app, cntB_cons, cntB_nil]; omega))) c.frame) ?_
  cases hb : PtD.btw c.frame 16 ((P.pages.length : Int) - 1)
  · refine runC ?_
    refine fin1 ?_
    simp [CallR, PtD.unshareL, hb]
  have hb' := hb
  simp only [PtD.btw, Bool.and_eq_true, decide_eq_true_eq] at hb'
  have hk : c.frame.toNat < P.pages.length := by omega
  have hp0 := h.p0' hk
  have hp1 := h.p1' hk
  have hsm := h.sm.pg
  have hpsz := h.psz
  refine runC ?_
  refine drawN 8 ?_
  refine runD ?_
  refine runC ?_
  refine drawN 12 ?_
  refine runD ?_
  refine callD (fun wc hG => unless_e _ _ wc) ?_
  refine runD ?_
  refine callD (fun wc hG => unless_e _ _ wc) ?_
  refine runD ?_
  refine run ?_
  intro F
  refine callE (fun wc hG => first_e [_, _] _ (lits hG mh [_, _] rfl rfl (by simp))) ?_
  cases hA : decide ((P.pg c.frame.toNat).own = 0)
  · rw [show firstL [bif false then 0 else 7, bif !decide ((P.pg c.frame.toNat).wit = -2) then 0 else 6] = 7 from rfl]
    refine runC ?_
    refine fin1 ?_
    simp [CallR, PtD.unshareL, hb, hA]
  cases hB : !decide ((P.pg c.frame.toNat).wit = -2)
  · rw [show firstL [bif true then 0 else 7, bif false then 0 else 6] = 6 from rfl]
    refine runC ?_
    refine fin1 ?_
    have hB' : decide ((P.pg c.frame.toNat).wit = -2) = true := by simpa using hB
    simp only [PtD.unshareL, hb, hA, hB']
    rfl
  rw [show firstL [bif true then 0 else 7, bif true then 0 else 6] = 0 from rfl]
  have hB : decide ((P.pg c.frame.toNat).wit = -2) = false := by simpa using hB
  have hkey : P.unshareL c.frame = bif decide (0 < (P.pg c.frame.toNat).wit) then .ok ((P.setGs (ix (P.pg c.frame.toNat).wit) { P.gs (ix (P.pg c.frame.toNat).wit) with maps := PtD.delM (P.gs (ix (P.pg c.frame.toNat).wit)).maps c.frame }).setPg c.frame.toNat ⟨0, -2⟩) else .ok (P.setPg c.frame.toNat ⟨0, -2⟩) := by
    rw [PtD.unshareL, hb, hA, hB]; rfl
  rw [hkey]
  have hok := PtD.may_ok.1 hm
  have hA' := hA
  simp only [decide_eq_true_eq] at hA'
  have hhost := hok.host _ hk hA'
  refine runC ?_
  refine st_cond _ rfl (fun hp => ?_) (fun hp => ?_)
  · have hp' := hp
    simp only [decide_eq_true_eq] at hp'
    have hv : 1 ≤ (P.pg c.frame.toNat).wit ∧ (P.pg c.frame.toNat).wit ≤ 4 := by
      rcases hhost with h1 | h1 | h1
      · omega
      · omega
      · simp only [PtD.lives, PtD.btw, Bool.and_eq_true, decide_eq_true_eq] at h1; exact h1.1
    have hi := ix_lt hv
    rw [hp]
    refine runC ?_
    refine drawN 8 ?_
    refine runD ?_
    refine callD (fun wc hG => guestO_e (bx := bx) (tx := 66) h (hG.here' (by (refine hpLe_cnt fun a => ?_; simp only [cntB_app, cntB_cons, cntB_nil]; omega))) hv) ?_
    rw [show ((P.pg c.frame.toNat).wit - 1).toNat = ix (P.pg c.frame.toNat).wit from rfl]
    refine runD ?_
    refine runC ?_
    refine ops_le (Y.hd P bx 66 ++ [⟨C, #[.int .i64 c.kind, .int .i64 c.vm, .int .i64 c.frame, .int .i64 c.mid, .int .i64 c.vcpu, .int .i64 c.ccpu], 37⟩]) (by (refine hpLe_cnt fun a => ?_; simp only [cntB_app, cntB_cons, cntB_nil]; omega)) ?_
    refine callM (Y.hd P bx 66) [⟨C, #[.int .i64 c.kind, .int .i64 c.vm, .int .i64 c.frame, .int .i64 c.mid, .int .i64 c.vcpu, .int .i64 c.ccpu], 37⟩] (fun wc hG => unmap_e h hG.hereN hi c.frame) (fun v hn hR => ?_) (.refl _)
    obtain ⟨rfl, gc, G, h2, hle⟩ := hR
    refine ops_le (⟨bx, #[Y.pv P, Y.gv P, Y.ov P], 66⟩ :: ⟨Y.pb, Y.pc, 51⟩ :: ⟨Y.gb, gc, 57⟩ :: ⟨Y.ob, Y.oc, 59⟩ :: ghs G 4) (by (refine hpLe_cnt fun a => ?_; have := HpLe.cnt hle a; simp only [cntB_app, cntB_cons, cntB_nil] at *; omega)) ?_
    refine runC ?_
    refine callE (fun wc hG => free_e wc) ?_
    refine runC ?_
    refine fin1 ?_
    have h3 := h2.setP (f := c.frame.toNat) hk ⟨0, -2⟩ (pc := (Y.pc.setIfInBounds (c.frame.toNat * 2) (.int .i64 0)).setIfInBounds (c.frame.toNat * 2 + 1) (.int .i64 (-2))) (by
      have := h.pg.put pg_len (pg_at hk) (k := 0) (vs := pgV ⟨0, -2⟩) (by simp [pgV])
      exact this) ⟨⟨by decide, by decide⟩, ⟨by decide, by decide⟩⟩
    refine ⟨rfl, _, h3, hle_eq (hdP _ _ _ _ _ _ _) ?_⟩
    rw [(List.cons.inj (hdG Y P (ix (P.pg c.frame.toNat).wit) { P.gs (ix (P.pg c.frame.toNat).wit) with maps := PtD.delM (P.gs (ix (P.pg c.frame.toNat).wit)).maps c.frame } gc G bx 66)).1]
    (refine hpLe_cnt fun a => ?_; simp only [cntB_app, cntB_cons, cntB_nil]; omega)
  · rw [hp]
    refine runC ?_
    refine callE (fun wc hG => free_e wc) ?_
    refine runC ?_
    refine fin1 ?_
    have h1 := h.setP hk ⟨0, -2⟩ (pc := (Y.pc.setIfInBounds (c.frame.toNat * 2) (.int .i64 0)).setIfInBounds (c.frame.toNat * 2 + 1) (.int .i64 (-2))) (by
      have := h.pg.put pg_len (pg_at hk) (k := 0) (vs := pgV ⟨0, -2⟩) (by simp [pgV])
      exact this) ⟨⟨by decide, by decide⟩, ⟨by decide, by decide⟩⟩
    refine ⟨rfl, _, h1, ?_⟩
    rw [hdP]
    (refine hpLe_cnt fun a => ?_; simp only [cntB_app, cntB_cons, cntB_nil]; omega)
end
end Go.Proofs.Ytjnndchkblnkgaa
