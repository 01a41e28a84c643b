/- Layer 18 (part): calls of a guest's that lend a page to the host, or take it back. -/
import Derived.Test.YtjnndchkblnkgaaPtH
import Derived.Test.YtjnndchkblnkgaaPtE
namespace Go.Proofs.Ytjnndchkblnkgaa
open Go.RowKit
set_option linter.unusedVariables false
set_option linter.unusedSimpArgs false
set_option maxRecDepth 20000
attribute [local irreducible] Hy St Ops DH DHF
namespace PtD
def lentL (P : PtD) (n mid was is bad : Int) : Except Int PtD :=
  bif !btw mid 0 15 then .error 2 else bif !thereB (P.gs (ix n)).maps mid then .error 3
  else bif !decide ((P.pg ((P.gs (ix n)).maps.getD (lowb (P.gs (ix n)).maps mid) default).frm.toNat).own = n) then .error 7
  else bif !decide ((P.pg ((P.gs (ix n)).maps.getD (lowb (P.gs (ix n)).maps mid) default).frm.toNat).wit = was) then .error bad
  else .ok (P.setPg ((P.gs (ix n)).maps.getD (lowb (P.gs (ix n)).maps mid) default).frm.toNat ⟨n, is⟩)
end PtD
section
variable {P : PtD} {Y : Lay} {bx tx : Nat} {w : World}
theorem OwnP.slM (h : OwnP P Y) {i : Nat} (hi : i < 4) (hh : Here (Y.hd P bx tx) w) : SlAt w (Y.G i).mv 2 ((P.gs i).maps.map mpV) := by
  have := h.sm.vc i (by have := h.n.g4; omega)
  exact (h.mp i hi).lie (fun e he => hh e (List.mem_cons_of_mem _ (List.mem_cons_of_mem _ (List.mem_cons_of_mem _ (List.mem_cons_of_mem _ (ghs_mem 4 hi (.inr he))))))) (by rw [List.length_map]; omega)
theorem lent_e (h : OwnP P Y) (hm : P.may = true) (hN : HereN (Y.hd P bx 66) w) (n mid was is bad : Int) (hn : 1 ≤ n ∧ n ≤ 4) (his : I64 is) (hbad : bad ≠ 0) : Fn Try.prog 41 [.pointer (some ⟨bx, 0, none⟩), .int .i64 n, .int .i64 mid, .int .i64 was, .int .i64 is, .int .i64 bad].toArray w ((Y.hd P bx 66).map (·.b)) (CallR bx 66 (P.lentL n mid was is bad)) := by
  have hi := ix_lt hn
  have hn4 := h.g4' hi
  have hz := h.gsz
  have hlen := (h.sm.vc (ix n) (by have := h.n.g4; omega)).2
  refine enterM _ hN Try.func41 ?_
  refine run ?_
  refine callE (fun wc hG => middled_e mid wc) ?_
  cases hb : PtD.btw mid 0 15
  · refine runC ?_
    refine fin1 ?_
    simp [CallR, PtD.lentL, hb]
  refine runC ?_
  have hb' := hb
  simp only [PtD.btw, Bool.and_eq_true, decide_eq_true_eq] at hb'
  refine callE (fun wc hG => guestO_e (bx := bx) (tx := 66) h (hG.here' (by (refine hpLe_cnt fun a => ?_; simp only [cntB_app, cntB_cons, cntB_nil]; omega))) hn) ?_
  rw [show (n - 1).toNat = ix n from rfl]
  refine runC ?_
  refine callE (fun wc hG => place_e (P.gs (ix n)).maps mid Y.gb (ix n * 5) (Y.G (ix n)).mv ?_ (h.slM (bx := bx) (tx := 66) hi (hG.here' (by (refine hpLe_cnt fun a => ?_; simp only [cntB_app, cntB_cons, cntB_nil]; omega)))) hb' (fun k hk => ⟨(PtD.may_map hm hi hk).1, (PtD.may_map hm hi hk).2.1⟩) (PtD.may_sorted hm hi) (by omega)) ?_
  · have h1 := h.gs.range gs_len (hG.here ⟨Y.gb, Y.gc, 57⟩ (by simp)) (h.rowG hi)
    have := rangeAt_cell (k := 4) h1 rfl
    rwa [Nat.zero_add] at this
  refine runC ?_
  refine st_cond _ rfl (fun hp => ?_) (fun hp => ?_)
  · refine runC ?_
    refine fin1 ?_
    simp only [PtD.lentL, hb, hp]
    rfl
  have ht := hp
  simp only [Bool.not_eq_false'] at ht
  have ht' := ht
  simp only [PtD.thereB, Bool.and_eq_true, decide_eq_true_eq] at ht'
  obtain ⟨hk, hmid⟩ := ht'
  obtain ⟨_, _, f0, f1⟩ := PtD.may_map hm hi hk
  have hmap : ((P.gs (ix n)).maps.map mpV)[PtD.lowb (P.gs (ix n)).maps mid]? = some [.int .i64 ((P.gs (ix n)).maps.getD (PtD.lowb (P.gs (ix n)).maps mid) default).mid, .int .i64 ((P.gs (ix n)).maps.getD (PtD.lowb (P.gs (ix n)).maps mid) default).frm] := by
    rw [List.getElem?_map, List.getD_eq_getElem?_getD, List.getElem?_eq_getElem hk]; rfl
  have hkey : P.lentL n mid was is bad = bif !decide ((P.pg ((P.gs (ix n)).maps.getD (PtD.lowb (P.gs (ix n)).maps mid) default).frm.toNat).own = n) then .error 7
      else bif !decide ((P.pg ((P.gs (ix n)).maps.getD (PtD.lowb (P.gs (ix n)).maps mid) default).frm.toNat).wit = was) then .error bad
      else .ok (P.setPg ((P.gs (ix n)).maps.getD (PtD.lowb (P.gs (ix n)).maps mid) default).frm.toNat ⟨n, is⟩) := by
    rw [PtD.lentL, hb, ht]; rfl
  rw [hkey]
  generalize hK : PtD.lowb (P.gs (ix n)).maps mid = K at *
  generalize hX : (P.gs (ix n)).maps.getD K default = X at *
  obtain ⟨g, cap, cur, ev, eh, hr⟩ := (h.mp _ hi).row (n := (P.gs (ix n)).maps.length) (by simp) (by omega)
  have hc1 := hr.nth (fun c hc => (mp_all c hc).1) hmap (k := 1) rfl
  obtain ⟨r, g1, g2⟩ := ghs_upd Y.G hi
  rw [eh] at g1
  have g0 := g2 (Y.G (ix n)).vv (Y.G (ix n)).mv (Y.G (ix n)).hv (Y.G (ix n)).hm
  rw [show updG Y.G (ix n) ⟨(Y.G (ix n)).vv, (Y.G (ix n)).mv, (Y.G (ix n)).hv, (Y.G (ix n)).hm⟩ = Y.G from updG_same Y.G _, eh] at g0
  rw [ev] at hn4
  have hsz : K * 2 + 2 ≤ cur.size := by have := hr.size; have := hr.le; have : (K + 1) * 2 ≤ cap * 2 := Nat.mul_le_mul_right _ (by omega); omega
  have hp0 := h.p0' f1
  have hp1 := h.p1' f1
  have hpsz := h.psz
  refine st_le (⟨g, cur, 75⟩ :: ⟨bx, #[Y.pv P, Y.gv P, Y.ov P], 66⟩ :: ⟨Y.pb, Y.pc, 51⟩ :: ⟨Y.gb, Y.gc, 57⟩ :: ⟨Y.ob, Y.oc, 59⟩ :: ((Y.G (ix n)).hv ++ r)) (by (refine hpLe_cnt fun a => ?_; have := HpLe.cnt g1 a; simp only [cntB_app, cntB_cons, cntB_nil] at *; omega)) ?_
  refine runC ?_
  refine drawN 14 ?_
  refine runD ?_
  refine runC ?_
  refine drawN 15 ?_
  refine runD ?_
  refine callD (fun wc hG => unless_e _ _ wc) ?_
  refine runD ?_
  refine callD (fun wc hG => unless_e _ _ wc) ?_
  refine runD ?_
  refine run ?_
  intro F
  refine callE (fun wc hG => first_e [_, _] _ (lits hG mh [_, _] rfl rfl (by simp))) ?_
  cases hA : decide ((P.pg X.frm.toNat).own = n)
  · rw [show firstL [bif false then 0 else 7, bif decide ((P.pg X.frm.toNat).wit = was) then 0 else bad] = 7 from rfl]
    refine runC ?_
    refine fin1 ?_
    rfl
  cases hB : decide ((P.pg X.frm.toNat).wit = was)
  · rw [show firstL [bif true then 0 else 7, bif false then 0 else bad] = bad by simp [firstL, hbad]]
    have hbd2 : decide (bad = 0) = false := by simp [hbad]
    refine run ?_
    refine st_cond _ rfl (fun hp => by rw [hbd2] at hp; cases hp) (fun _ => ?_)
    refine runC ?_
    refine fin1 ?_
    rfl
  rw [show firstL [bif true then 0 else 7, bif true then 0 else bad] = 0 from rfl]
  refine runC ?_
  refine fin1 ?_
  have h1 := h.setP f1 ⟨n, is⟩ (pc := Y.pc.setIfInBounds (X.frm.toNat * 2 + 1) (.int .i64 is)) (by
    have := h.pg.put pg_len (pg_at f1) (k := 1) (vs := [.int .i64 is]) (by simp)
    simp only [decide_eq_true_eq] at hA
    rw [hA] at this
    exact this) ⟨(show I64 n from ⟨by omega, by omega⟩), his⟩
  refine ⟨rfl, _, h1, ?_⟩
  rw [hdP]
  (refine hpLe_cnt fun a => ?_; have := HpLe.cnt g0 a; simp only [cntB_app, cntB_cons, cntB_nil] at *; omega)
theorem lentL_ne {P : PtD} {n mid was is bad e : Int} (hb : bad ≠ 0) (h : P.lentL n mid was is bad = .error e) : e ≠ 0 := by
  unfold PtD.lentL at h
  revert h
  cases PtD.btw mid 0 15
  · intro h; cases h; decide
  cases PtD.thereB (P.gs (ix n)).maps mid
  · intro h; cases h; decide
  cases decide ((P.pg ((P.gs (ix n)).maps.getD (PtD.lowb (P.gs (ix n)).maps mid) default).frm.toNat).own = n)
  · intro h; cases h; decide
  cases decide ((P.pg ((P.gs (ix n)).maps.getD (PtD.lowb (P.gs (ix n)).maps mid) default).frm.toNat).wit = was)
  · intro h; cases h; exact hb
  · intro h; cases h
/-- Give: kind 10. -/
theorem guestCallGive_e (h : OwnP P Y) (hm : P.may = true) (hN : HereN (Y.hd P bx 66) w) (vm fr mid vc cc : Int) (cpu : Nat) (hc : cpu < P.on.length) (hv : (P.st cpu).vm ≠ 0) : Fn Try.prog 24 [.pointer (some ⟨bx, 0, none⟩), .int .i64 (cpu : Int), clV ⟨10, vm, fr, mid, vc, cc⟩].toArray w ((Y.hd P bx 66).map (·.b)) (CallR bx 66 (P.lentL (P.st cpu).vm mid (-2) (0) 4)) := by
  obtain ⟨b1, b2, _⟩ := may_seat hm hc hv
  have hs0 := h.s0 hc
  refine enterM _ hN Try.func24 ?_
  refine run ?_
  intro C
  refine runC ?_
  refine callM (Y.hd P bx 66) [⟨C, #[.int .i64 10, .int .i64 vm, .int .i64 fr, .int .i64 mid, .int .i64 vc, .int .i64 cc], 37⟩] (fun wc hG => lent_e h hm hG.hereN (P.st cpu).vm mid (-2) (0) 4 ⟨b1, b2⟩ ⟨by decide, by decide⟩ (by decide)) (fun v hn hR => ?_) (by rw [hdY]; (refine perm_cnt fun a => ?_; simp only [cntB_app, cntB_cons, cntB_nil]; omega))
  refine runC ?_
  refine fin1 ?_
  exact hR.le (by (refine hpLe_cnt fun a => ?_; simp only [cntB_app, cntB_cons, cntB_nil]; omega))
/-- Take: kind 11. -/
theorem guestCallTake_e (h : OwnP P Y) (hm : P.may = true) (hN : HereN (Y.hd P bx 66) w) (vm fr mid vc cc : Int) (cpu : Nat) (hc : cpu < P.on.length) (hv : (P.st cpu).vm ≠ 0) : Fn Try.prog 24 [.pointer (some ⟨bx, 0, none⟩), .int .i64 (cpu : Int), clV ⟨11, vm, fr, mid, vc, cc⟩].toArray w ((Y.hd P bx 66).map (·.b)) (CallR bx 66 (P.lentL (P.st cpu).vm mid (0) (-2) 6)) := by
  obtain ⟨b1, b2, _⟩ := may_seat hm hc hv
  have hs0 := h.s0 hc
  refine enterM _ hN Try.func24 ?_
  refine run ?_
  intro C
  refine runC ?_
  refine callM (Y.hd P bx 66) [⟨C, #[.int .i64 11, .int .i64 vm, .int .i64 fr, .int .i64 mid, .int .i64 vc, .int .i64 cc], 37⟩] (fun wc hG => lent_e h hm hG.hereN (P.st cpu).vm mid (0) (-2) 6 ⟨b1, b2⟩ ⟨by decide, by decide⟩ (by decide)) (fun v hn hR => ?_) (by rw [hdY]; (refine perm_cnt fun a => ?_; simp only [cntB_app, cntB_cons, cntB_nil]; omega))
  refine runC ?_
  refine fin1 ?_
  exact hR.le (by (refine hpLe_cnt fun a => ?_; simp only [cntB_app, cntB_cons, cntB_nil]; omega))
end
end Go.Proofs.Ytjnndchkblnkgaa
