/- Layer 18 (part): pages shared and given away, and taken back. -/
import Derived.Test.YtjnndchkblnkgaaPtJ
import Derived.Test.YtjnndchkblnkgaaPtF
namespace Go.Proofs.Ytjnndchkblnkgaa
open Go.RowKit
set_option linter.unusedVariables false
set_option linter.unusedSimpArgs false
set_option maxRecDepth 20000
attribute [local irreducible] Hy St Ops DH DHF
section
variable {n : Nat} {w0 : World} {mu : List Nat} {l : Fm} {hp : Hp} {all : Array Oper} {ty : TypeId} {pos : String} {af : Array Edge} {ds : List (Nat × Nat)} {iv : Fm} {i d : Nat} {E : List Nat} {Rs : List (Nat × RT)} {Z : List (Nat × RT) → Prop}
theorem eBSlice {t len e sz : Nat} {z : Value} {ps : List (Nat × Operand)} {vs : List (Nat × Value)} {zl : List Value} {out : Array Value} {out' : List Value} (h : DE2 Try.prog n w0 mu all ds l hp iv Z E ((i, fun v hn => ∃ b, v = .slice (some ⟨b, 0, none⟩) len len ∧ hn = [⟨b, out'.toArray, e⟩]) :: Rs)) (ho : all[i]? = some ⟨some d, .buildSlice t len ps.toArray, ty, pos, af, none⟩ := by rfl) (ht : lk Tb.sl t = some (e, sz) := by rfl) (hz : lk Tb.zs e = some z := by rfl) (hzc : z.cells = zl.toArray := by (first | ((simp only [Value.cells]) <;> rfl) | rfl)) (hzs : Nat.beq zl.length sz = true := by rfl) (hpos : (Nat.blt 0 (len * sz) && Nat.ble (len * sz) 16777216) = true := by rfl) (hv : evp (depFm ds iv af.toList ++ l) ps = some vs := by rfl) (hf : flS sz (rep zl len).toArray vs = some out := by rfl) (hn : out = out'.toArray := by (first | ((simp only [putAt, rep, Value.cells, Nat.reduceMul, Nat.zero_mul, Nat.one_mul, Nat.mul_one, List.toList_toArray, List.setIfInBounds_toArray, List.set_cons_zero, List.set_cons_succ, List.drop_succ_cons, List.drop_zero, List.take_succ_cons, List.take_zero, List.cons_append, List.nil_append, List.append_nil]) <;> rfl) | rfl)) : DE2 Try.prog n w0 mu all ds l hp iv Z (i :: E) Rs :=
  de2_e ho (eo_bslice tb_ok ht hz hzc hzs hpos hv hf hn) ⟨_, _, 0, rfl, rfl⟩ h
end
namespace PtD
def insM (l : List MpD) (mid frm : Int) : List MpD := l.take (lowb l mid) ++ ⟨mid, frm⟩ :: l.drop (lowb l mid)
theorem insM_len (l : List MpD) (mid frm : Int) : (insM l mid frm).length = l.length + 1 := by
  have := lowb_le l mid
  simp only [insM, List.length_append, List.length_take, List.length_cons, List.length_drop]; omega
theorem insM_mem {l : List MpD} {mid frm : Int} {x : MpD} (h : x ∈ insM l mid frm) : x ∈ l ∨ x = ⟨mid, frm⟩ := by
  rw [insM, List.mem_append, List.mem_cons] at h
  rcases h with h | h | h
  · exact .inl (List.mem_of_mem_take h)
  · exact .inr h
  · exact .inl (List.mem_of_mem_drop h)
theorem sorted_ge {l : List MpD} (hs : Sorted l) (h0 : ∀ k, k < l.length → 0 ≤ (l.getD k default).mid) : ∀ k, k < l.length → (k : Int) ≤ (l.getD k default).mid := by
  intro k
  induction k with
  | zero => intro h; exact h0 0 h
  | succ k ih => intro h; have := ih (by omega); have := hs k (k + 1) (by omega) h; omega
theorem may_maps16 {P : PtD} (hm : P.may = true) {i : Nat} (hi : i < 4) : (P.gs i).maps.length ≤ 16 := by
  rcases Nat.lt_or_ge 16 (P.gs i).maps.length with h | h
  · have h1 := sorted_ge (may_sorted hm hi) (fun k hk => (may_map hm hi hk).1) 16 h
    have h2 := (may_map hm hi h).2.1
    omega
  · exact h
def lendL (P : PtD) (vm fr mid : Int) (x : PgD) : Except Int PtD :=
  bif !P.lives vm then .error 3 else bif !decide ((P.pg fr.toNat).own = 0) then .error 7 else bif !(decide ((P.pg fr.toNat).wit = -2) && !thereB (P.gs (ix vm)).maps mid) then .error 4
  else .ok ((P.setPg fr.toNat x).setGs (ix vm) { P.gs (ix vm) with maps := insM (P.gs (ix vm)).maps mid fr })
end PtD
theorem Good.notin {w0 w : World} {mu : List Nat} {hi hp : Hp} (h : Good w0 mu (hi ++ hp) w) {e : Blk} (he : e ∈ hp) : e.b ∉ hi.map (·.b) := by
  have hn := h.nodup
  rw [List.map_append, List.nodup_append] at hn
  intro hm
  exact hn.2.2 _ hm _ (List.mem_map.2 ⟨e, he, rfl⟩) rfl
section
variable {P : PtD} {Y : Lay} {bx tx : Nat} {w : World}
theorem OwnP.mapsG (h : OwnP P Y) {i : Nat} (hi : i < 4) (ms : List MpD) {mv : Value} {hm : Hp} (hA : Own 75 2 mv hm (ms.map mpV)) (hw : ∀ x ∈ ms, I64 x.mid ∧ I64 x.frm) (hs : ms.length ≤ 1000) : ∃ Y', OwnP (P.setGs i { P.gs i with maps := ms }) Y' ∧ Y'.hd (P.setGs i { P.gs i with maps := ms }) bx tx = ⟨bx, #[Y.pv P, Y.gv P, Y.ov P], tx⟩ :: ⟨Y.pb, Y.pc, 51⟩ :: ⟨Y.gb, putAt Y.gc (i * 5 + 4) [mv], 57⟩ :: ⟨Y.ob, Y.oc, 59⟩ :: ghs (updG Y.G i ⟨(Y.G i).vv, mv, (Y.G i).hv, hm⟩) 4 := by
  have g4 := h.n.g4
  have hf := h.wf.gs i (by omega)
  have hsm := h.sm.vc i (by omega)
  have hg := h.setG hi { P.gs i with maps := ms } ⟨(Y.G i).vv, mv, (Y.G i).hv, hm⟩ (gc := putAt Y.gc (i * 5 + 4) [mv]) (by
    have := h.gs.put gs_len (h.rowG hi) (k := 4) (vs := [mv]) (by simp)
    exact this) (h.vc i hi) hA ⟨hf.1, hf.2.1, hw⟩ ⟨hsm.1, hs⟩
  refine ⟨_, hg, ?_⟩
  rw [hdG]
theorem OwnP.mapsX (h : OwnP P Y) {i : Nat} (hi : i < 4) (ms : List MpD) {mv : Value} {hm : Hp} (hA : Own 75 2 mv hm (ms.map mpV)) (hw : ∀ x ∈ ms, I64 x.mid ∧ I64 x.frm) (hs : ms.length ≤ 1000) : OwnP (P.setGs i { P.gs i with maps := ms }) { Y with gc := putAt Y.gc (i * 5 + 4) [mv], G := updG Y.G i ⟨(Y.G i).vv, mv, (Y.G i).hv, hm⟩ } := by
  have g4 := h.n.g4
  have hf := h.wf.gs i (by omega)
  have hsm := h.sm.vc i (by omega)
  exact h.setG hi { P.gs i with maps := ms } ⟨(Y.G i).vv, mv, (Y.G i).hv, hm⟩ (gc := putAt Y.gc (i * 5 + 4) [mv]) (by
    have := h.gs.put gs_len (h.rowG hi) (k := 4) (vs := [mv]) (by simp)
    exact this) (h.vc i hi) hA ⟨hf.1, hf.2.1, hw⟩ ⟨hsm.1, hs⟩
theorem unmap_e (h : OwnP P Y) (hN : HereN (Y.hd P bx tx) w) {i : Nat} (hi : i < 4) (f : Int) : Fn Try.prog 64 [.pointer (some ⟨Y.gb, i * 5, none⟩), .int .i64 f].toArray w ((Y.hd P bx tx).map (·.b)) (fun u hn => u = .tuple #[] ∧ ∃ gc G, OwnP (P.setGs i { P.gs i with maps := PtD.delM (P.gs i).maps f }) { Y with gc := gc, G := G } ∧ HpLe (⟨bx, #[Y.pv P, Y.gv P, Y.ov P], tx⟩ :: ⟨Y.pb, Y.pc, 51⟩ :: ⟨Y.gb, gc, 57⟩ :: ⟨Y.ob, Y.oc, 59⟩ :: ghs G 4) hn) := by
  have n4 := h.g4' hi
  have hz := h.gsz
  have g4 := h.n.g4
  have hlen := (h.sm.vc i (by omega)).2
  refine enterM _ hN Try.func64 ?_
  refine run ?_
  intro B
  obtain ⟨r, g1, g2⟩ := ghs_upd Y.G hi
  refine runC ?_
  refine ops_le ((Y.G i).hm ++ (⟨B, #[.int .i64 f], 3⟩ :: ⟨bx, #[Y.pv P, Y.gv P, Y.ov P], tx⟩ :: ⟨Y.pb, Y.pc, 51⟩ :: ⟨Y.gb, Y.gc, 57⟩ :: ⟨Y.ob, Y.oc, 59⟩ :: ((Y.G i).hv ++ r))) (by (refine hpLe_cnt fun a => ?_; have := HpLe.cnt g1 a; simp only [cntB_app, cntB_cons, cntB_nil] at *; omega)) ?_
  refine callM (Y.G i).hm _ (fun wc hG => delete_e (P.gs i).maps f B (h.mp i hi) hG.hereN ?_ (hG.notin mh) (by omega)) (fun mv hm' hA => ?_) (.refl _)
  · have := hG.here ⟨B, #[.int .i64 f], 3⟩ (List.mem_append_right _ mh)
    rw [cell_of_block this]; rfl
  obtain ⟨q, cap, ev⟩ := hA.opened
  subst ev
  refine ops_perm (_ ++ hm') List.perm_append_comm ?_
  simp only [List.cons_append, List.nil_append]
  refine runC ?_
  have h2 := h.mapsX hi (PtD.delM (P.gs i).maps f) hA (fun x hx => (h.wf.gs i (by omega)).2.2 x ((List.mem_filter.1 hx).1)) (Nat.le_trans (List.length_filter_le _ _) hlen)
  refine fin0 ⟨rfl, _, _, h2, ?_⟩
  have g3 := g2 (Y.G i).vv (.slice q (List.map mpV (PtD.delM (P.gs i).maps f)).length cap) (Y.G i).hv hm'
  simp only [putAt]
  (refine hpLe_cnt fun a => ?_; have := HpLe.cnt g3 a; simp only [cntB_app, cntB_cons, cntB_nil] at *; omega)
theorem lend_e (h : OwnP P Y) (hm : P.may = true) (hN : HereN (Y.hd P bx 66) w) (c : ClD) (hw : c.Wf) (x : PgD) (hx : I64 x.own ∧ I64 x.wit) (hf : PtD.btw c.frame 16 ((P.pages.length : Int) - 1) = true) (hmd : PtD.btw c.mid 0 15 = true) : Fn Try.prog 63 [.pointer (some ⟨bx, 0, none⟩), clV c, .agg #[.int .i64 x.own, .int .i64 x.wit]].toArray w ((Y.hd P bx 66).map (·.b)) (CallR bx 66 (P.lendL c.vm c.frame c.mid x)) := by
  simp only [PtD.btw, Bool.and_eq_true, decide_eq_true_eq] at hf hmd
  have hk : c.frame.toNat < P.pages.length := by omega
  have hp0 := h.p0' hk
  have hp1 := h.p1' hk
  have hsm := h.sm.pg
  have hpsz := h.psz
  have hz := h.gsz
  have g4 := h.n.g4
  refine enterM _ hN Try.func63 ?_
  refine run ?_
  intro C
  refine run ?_
  intro D
  refine run ?_
  refine callE (fun wc hG => lives_e (h.partQ (bx := bx) (tx := 66) (show Here (Lay.hd Y P bx _) wc from hG.here' (by (refine hpLe_cnt fun a => ?_; simp only [cntB_app, cntB_cons, cntB_nil]; omega)))) _) ?_
  cases hb : P.lives c.vm
  · refine runC ?_
    refine fin1 ?_
    simp [CallR, PtD.lendL, hb]
  have hb' := hb
  simp only [PtD.lives, PtD.btw, Bool.and_eq_true, decide_eq_true_eq] at hb'
  obtain ⟨hv, hl⟩ := hb'
  have hi : ix c.vm < 4 := ix_lt hv
  have hlen := PtD.may_maps16 hm hi
  refine runC ?_
  refine callE (fun wc hG => guestO_e (bx := bx) (tx := 66) h (hG.here' (by (refine hpLe_cnt fun a => ?_; simp only [cntB_app, cntB_cons, cntB_nil]; omega))) hv) ?_
  rw [show (c.vm - 1).toNat = ix c.vm from rfl]
  refine runC ?_
  refine callE (fun wc hG => place_e (P.gs (ix c.vm)).maps c.mid Y.gb (ix c.vm * 5) (Y.G (ix c.vm)).mv ?_ (h.slM (bx := bx) (tx := 66) hi (hG.here' (by (refine hpLe_cnt fun a => ?_; simp only [cntB_app, cntB_cons, cntB_nil]; omega)))) hmd (fun k hk => ⟨(PtD.may_map hm hi hk).1, (PtD.may_map hm hi hk).2.1⟩) (PtD.may_sorted hm hi) (by omega)) ?_
  · have h1 := h.gs.range gs_len (hG.here ⟨Y.gb, Y.gc, 57⟩ (by simp)) (h.rowG hi)
    have := rangeAt_cell (k := 4) h1 rfl
    rwa [Nat.zero_add] at this
  refine runC ?_
  refine drawN 8 ?_
  refine runD ?_
  refine runC ?_
  refine drawN 16 ?_
  refine runDG ?_
  refine callD (fun wc hG => unless_e _ _ wc) ?_
  refine runDG ?_
  refine callD (fun wc hG => unless_e _ _ wc) ?_
  refine runDG ?_
  refine run ?_
  intro F
  refine callE (fun wc hG => first_e [_, _] _ (lits hG mh [_, _] rfl rfl (by simp))) ?_
  have hkey : P.lendL c.vm c.frame c.mid x = bif !decide ((P.pg c.frame.toNat).own = 0) then .error 7 else bif !(decide ((P.pg c.frame.toNat).wit = -2) && !PtD.thereB (P.gs (ix c.vm)).maps c.mid) then .error 4
      else .ok ((P.setPg c.frame.toNat x).setGs (ix c.vm) { P.gs (ix c.vm) with maps := PtD.insM (P.gs (ix c.vm)).maps c.mid c.frame }) := by
    rw [PtD.lendL, hb]; rfl
  rw [hkey]
  cases hA : decide ((P.pg c.frame.toNat).own = 0)
  · rw [show firstL [bif false then 0 else 7, bif (decide ((P.pg c.frame.toNat).wit = -2) && !PtD.thereB (P.gs (ix c.vm)).maps c.mid) then 0 else 4] = 7 from rfl]
    refine runC ?_
    refine fin1 ?_
    rfl
  cases hB : (decide ((P.pg c.frame.toNat).wit = -2) && !PtD.thereB (P.gs (ix c.vm)).maps c.mid)
  · rw [show firstL [bif true then 0 else 7, bif false then 0 else 4] = 4 from rfl]
    refine runC ?_
    refine fin1 ?_
    rfl
  rw [show firstL [bif true then 0 else 7, bif true then 0 else 4] = 0 from rfl]
  have h0 := h.setP hk x (pc := (Y.pc.setIfInBounds (c.frame.toNat * 2) (.int .i64 x.own)).setIfInBounds (c.frame.toNat * 2 + 1) (.int .i64 x.wit)) (by
    have := h.pg.put pg_len (pg_at hk) (k := 0) (vs := pgV x) (by simp [pgV])
    exact this) hx
  have hd0 := hdP Y P c.frame.toNat x ((Y.pc.setIfInBounds (c.frame.toNat * 2) (.int .i64 x.own)).setIfInBounds (c.frame.toNat * 2 + 1) (.int .i64 x.wit)) bx 66
  obtain ⟨Y1, eY⟩ : ∃ Y1, Y1 = ({ Y with pc := (Y.pc.setIfInBounds (c.frame.toNat * 2) (.int .i64 x.own)).setIfInBounds (c.frame.toNat * 2 + 1) (.int .i64 x.wit) } : Lay) := ⟨_, rfl⟩
  rw [← eY] at h0 hd0
  have hn4 := h.g4' hi
  refine runC ?_
  refine late 12 0 ?_
  refine drawMA 12 [0, 1, 2, 3, 4, 5, 6, 7, 8, 9, 10] [11] [] ?_
  refine runS ?_
  refine eBSlice ?_
  refine eNil ?_
  rintro _ _ ⟨V, rfl, rfl⟩
  simp only [DN]
  refine dNil ?_
  refine opsF ?_
  simp only [List.cons_append, List.nil_append]
  obtain ⟨r, g1, g2⟩ := ghs_upd Y.G hi
  refine ops_le ((Y.G (ix c.vm)).hm ++ (⟨V, #[.int .i64 c.mid, .int .i64 c.frame], 75⟩ :: ⟨bx, #[Y.pv P, Y.gv P, Y.ov P], 66⟩ :: ⟨Y.pb, (Y.pc.setIfInBounds (c.frame.toNat * 2) (.int .i64 x.own)).setIfInBounds (c.frame.toNat * 2 + 1) (.int .i64 x.wit), 51⟩ :: ⟨Y.gb, Y.gc, 57⟩ :: ⟨Y.ob, Y.oc, 59⟩ :: ((Y.G (ix c.vm)).hv ++ r))) (by (refine hpLe_cnt fun a => ?_; have := HpLe.cnt g1 a; simp only [cntB_app, cntB_cons, cntB_nil] at *; omega)) ?_
  refine callM (Y.G (ix c.vm)).hm _ (fun wc hG => insert_e (P.gs (ix c.vm)).maps (PtD.lowb (P.gs (ix c.vm)).maps c.mid) ⟨c.mid, c.frame⟩ V _ (h.mp _ hi) hG.hereN (hG.here ⟨V, #[.int .i64 c.mid, .int .i64 c.frame], 75⟩ (List.mem_append_right _ mh)) (hG.notin mh) (PtD.lowb_le _ _) (by omega)) (fun mv hm' hI => ?_) (.refl _)
  have hI' : Own 75 2 mv hm' ((PtD.insM (P.gs (ix c.vm)).maps c.mid c.frame).map mpV) := hI
  obtain ⟨q, cap, ev⟩ := hI'.opened
  subst ev
  refine ops_perm (_ ++ hm') List.perm_append_comm ?_
  simp only [List.cons_append, List.nil_append]
  refine runC ?_
  refine fin1 ?_
  have hwf := (h.wf.gs _ (show ix c.vm < P.guests.length by omega)).2.2
  obtain ⟨Y2, h2, hd2⟩ := h0.mapsG hi (PtD.insM (P.gs (ix c.vm)).maps c.mid c.frame) hI' (fun y hy => by
    rcases PtD.insM_mem hy with h | rfl
    · exact hwf y h
    · exact ⟨hw.mid, hw.frame⟩) (by rw [PtD.insM_len]; omega) (bx := bx) (tx := 66)
  refine ⟨rfl, Y2, h2, hle_eq hd2 ?_⟩
  have g3 := g2 (Y.G (ix c.vm)).vv (.slice q (List.map mpV (PtD.insM (P.gs (ix c.vm)).maps c.mid c.frame)).length cap) (Y.G (ix c.vm)).hv hm'
  rw [(List.cons.inj hd0).1, eY]
  simp only [putAt]
  (refine hpLe_cnt fun a => ?_; have := HpLe.cnt g3 a; simp only [cntB_app, cntB_cons, cntB_nil] at *; omega)
end
end Go.Proofs.Ytjnndchkblnkgaa
