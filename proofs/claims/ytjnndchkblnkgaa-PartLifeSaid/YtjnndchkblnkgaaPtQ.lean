/- Layer 18 (part): a machine ended: the program's. -/
import Derived.Test.YtjnndchkblnkgaaPtO
namespace Go.Proofs.Ytjnndchkblnkgaa
open Go.RowKit
set_option linter.unusedVariables false
set_option linter.unusedSimpArgs false
set_option maxRecDepth 20000
attribute [local irreducible] Hy St Ops DH DHF
namespace PtD
def swept (vm : Int) (x : PgD) : PgD := bif decide (x.own = vm) || (decide (x.own = 0) && decide (x.wit = vm)) then ⟨x.own, -2⟩ else x
def sweep (P : PtD) (vm : Int) : Nat → PtD
  | 0 => P
  | k + 1 => (sweep P vm k).setPg k (swept vm (P.pg k))
def frees (P : PtD) (f : Nat) : Nat → PtD
  | 0 => P
  | k + 1 => (frees P f k).setPg (f + k) ⟨0, -2⟩
variable (P : PtD)
theorem sweep_len (vm : Int) (k : Nat) : (P.sweep vm k).pages.length = P.pages.length := by
  induction k with
  | zero => rfl
  | succ k ih => rw [sweep, setPg]; simpa using ih
theorem sweep_gs (vm : Int) (k : Nat) : (P.sweep vm k).guests = P.guests := by
  induction k with
  | zero => rfl
  | succ k ih => rw [sweep, setPg]; exact ih
theorem sweep_on (vm : Int) (k : Nat) : (P.sweep vm k).on = P.on := by
  induction k with
  | zero => rfl
  | succ k ih => rw [sweep, setPg]; exact ih
theorem sweep_pg (vm : Int) (k : Nat) (hk : k ≤ P.pages.length) (j : Nat) : (P.sweep vm k).pg j = if j < k then swept vm (P.pg j) else P.pg j := by
  induction k with
  | zero => rw [if_neg (by omega)]; rfl
  | succ k ih =>
    rw [sweep, setPg_pg _ _ _ (by rw [sweep_len]; omega), ih (by omega)]
    by_cases hj : j = k
    · rw [if_pos hj, if_pos (by omega), hj]
    · rw [if_neg hj]
      by_cases h2 : j < k
      · rw [if_pos h2, if_pos (by omega)]
      · rw [if_neg h2, if_neg (by omega)]
theorem frees_len (f k : Nat) : (P.frees f k).pages.length = P.pages.length := by
  induction k with
  | zero => rfl
  | succ k ih => rw [frees, setPg]; simpa using ih
theorem frees_gs (f k : Nat) : (P.frees f k).guests = P.guests := by
  induction k with
  | zero => rfl
  | succ k ih => rw [frees, setPg]; exact ih
theorem frees_on (f k : Nat) : (P.frees f k).on = P.on := by
  induction k with
  | zero => rfl
  | succ k ih => rw [frees, setPg]; exact ih
theorem frees_pg (f k : Nat) (hf : f + k ≤ P.pages.length) (j : Nat) : (P.frees f k).pg j = if f ≤ j ∧ j < f + k then ⟨0, -2⟩ else P.pg j := by
  induction k with
  | zero => rw [if_neg (by omega)]; rfl
  | succ k ih =>
    rw [frees, setPg_pg _ _ _ (by rw [frees_len]; omega), ih (by omega)]
    by_cases hj : j = f + k
    · rw [if_pos hj, if_pos (by omega)]
    · rw [if_neg hj]
      by_cases h2 : f ≤ j ∧ j < f + k
      · rw [if_pos h2, if_pos (by omega)]
      · rw [if_neg h2, if_neg (by omega)]
theorem setPg_same {P : PtD} {k : Nat} {x : PgD} (hk : k < P.pages.length) (h : P.pg k = x) : P.setPg k x = P := by
  unfold setPg
  have : P.pages.set k x = P.pages := set_same (by
    rw [← h]
    show _ = some (P.pages.getD k default)
    rw [List.getD_eq_getElem?_getD, List.getElem?_eq_getElem hk]; rfl)
  rw [this]
def gone (P : PtD) (vm : Int) : PtD := (P.sweep vm P.pages.length).frees (P.gs (ix vm)).first.toNat 5
def destroyL (P : PtD) (vm : Int) : Except Int PtD :=
  bif !btw vm 1 4 then .error 2 else bif !(P.gs (ix vm)).live then .error 3 else bif (P.gs (ix vm)).vcpus.any (fun x => decide (0 ≤ x)) then .error 6
  else .ok ((P.gone vm).setGs (ix vm) ⟨false, (P.gone vm).owns vm, 0, [], []⟩)
end PtD
theorem destroy1_e (x : Int) (w : World) : Fn Try.prog 72 ([] ++ [Value.int .i64 x] ++ []).toArray w [] (fun u _ => u = .bool (decide (0 ≤ x))) := by
  refine enter Try.func72 ?_
  refine run ?_
  exact fin1 rfl
theorem indexIntF_e {w : World} (xs : List Int) (v : Value) (h : SlAt w v 1 (xs.map inV)) :
    Fn Try.prog 85 [v, .func (.func 72) [].toArray [].toArray].toArray w [] (fun u _ => u = .int .i64 (idxI (fun x => decide (0 ≤ x)) xs)) := by
  obtain ⟨q, cap, rfl, hne, hle⟩ := h.opened
  refine enter Try.func85 ?_
  refine run ?_
  refine loopS (σ := Nat) (fun k => [(8, .int .i64 (k : Int))]) (fun _ => []) (fun k => k ≤ xs.length ∧ ∀ j, j < k → decide (0 ≤ xs.getD j default) = false) (fun k => xs.length - k) 0 ⟨Nat.zero_le _, fun j hj => absurd hj (by omega)⟩ ?_
  rintro k m rfl ⟨hk, hno⟩
  refine run ?_
  refine st_cond _ rfl (fun hc => ?_) (fun hc => ?_)
  · have hlt : k < xs.length := by simpa using hc
    obtain ⟨b, o, rfl⟩ := hne (by intro e; subst e; simp at hlt)
    have hr := rangeAt_cell0 (h.row hlt)
    simp only [Nat.mul_one] at hr
    refine run ?_
    refine callF (fun wc hG => destroy1_e (xs.getD k default) wc) ?_
    refine run ?_
    refine st_cond _ rfl (fun hp => ?_) (fun hp => ?_)
    · refine run ?_
      refine fin1 ?_
      rw [idxI_at hlt hp hno]
    · refine run ?_
      refine nextS (k + 1) ⟨hlt, fun j hj => ?_⟩
      rcases Nat.lt_succ_iff_lt_or_eq.1 hj with hj | rfl
      · exact hno j hj
      · exact hp
  · have hge : k = xs.length := by simp at hc; omega
    subst hge
    refine run ?_
    refine fin1 ?_
    rw [idxI_none hno]
theorem containsIntF_e {w : World} (xs : List Int) (v : Value) (h : SlAt w v 1 (xs.map inV)) :
    Fn Try.prog 71 [v, .func (.func 72) [].toArray [].toArray].toArray w [] (fun u _ => u = .bool (xs.any fun x => decide (0 ≤ x))) := by
  refine enter Try.func71 ?_
  refine run ?_
  refine callE (fun wc hG => indexIntF_e xs v (h.good hG)) ?_
  refine run ?_
  refine fin1 ?_
  rw [← idxI_ge]
section
variable {P : PtD} {Y : Lay} {bx tx : Nat} {w : World}
theorem OwnP.slV (h : OwnP P Y) {i : Nat} (hi : i < 4) (hh : Here (Y.hd P bx tx) w) : SlAt w (Y.G i).vv 1 ((P.gs i).vcpus.map inV) := by
  have := h.sm.vc i (by have := h.n.g4; omega)
  exact (h.vc i hi).lie (fun e he => hh e (List.mem_cons_of_mem _ (List.mem_cons_of_mem _ (List.mem_cons_of_mem _ (List.mem_cons_of_mem _ (ghs_mem 4 hi (.inl he))))))) (by rw [List.length_map]; omega)
theorem destroy_e (h : OwnP P Y) (hm : P.may = true) (hN : HereN (Y.hd P bx 66) w) (c : ClD) (hw : c.Wf) : Fn Try.prog 47 [.pointer (some ⟨bx, 0, none⟩), clV c].toArray w ((Y.hd P bx 66).map (·.b)) (CallR bx 66 (P.destroyL c.vm)) := by
  have hp1 := h.n.p1
  have g4 := h.n.g4
  have hz := h.gsz
  have hsm := h.sm.pg
  have hpsz := h.psz
  refine enterM _ hN Try.func47 ?_
  refine run ?_
  intro C
  refine run ?_
  refine callE (fun wc hG => machined_e _ wc) ?_
  refine run ?_
  intro F0
  refine callE (fun wc hG => first_e [_] _ (lits hG mh [_] rfl rfl (by simp))) ?_
  cases hb : PtD.btw c.vm 1 4
  · rw [show firstL [bif false then 0 else 2] = 2 from rfl]
    refine runC ?_
    refine fin1 ?_
    simp [CallR, PtD.destroyL, hb]
  rw [show firstL [bif true then 0 else 2] = 0 from rfl]
  have hb' := hb
  simp only [PtD.btw, Bool.and_eq_true, decide_eq_true_eq] at hb'
  have hi : ix c.vm < 4 := ix_lt hb'
  obtain ⟨q, cap, ev⟩ := (h.vc _ hi).opened
  have n0 := h.g0 hi
  have n2 := h.g2 hi
  have n3 := h.g3 hi
  refine runC ?_
  refine callE (fun wc hG => guestO_e (bx := bx) (tx := 66) h (hG.here' (by (refine hpLe_cnt fun a => ?_; simp only [cntB_app, cntB_cons, cntB_nil]; omega))) hb') ?_
  rw [show (c.vm - 1).toNat = ix c.vm from rfl]
  refine runC ?_
  refine callE (fun wc hG => containsIntF_e (P.gs (ix c.vm)).vcpus (Y.G (ix c.vm)).vv (h.slV (bx := bx) (tx := 66) hi (hG.here' (by (refine hpLe_cnt fun a => ?_; simp only [cntB_app, cntB_cons, cntB_nil]; omega))))) ?_
  refine runC ?_
  refine callE (fun wc hG => unless_e _ _ wc) ?_
  refine runC ?_
  refine callE (fun wc hG => unless_e _ _ wc) ?_
  refine runC ?_
  intro F
  refine callE (fun wc hG => first_e [_, _] _ (lits hG mh [_, _] rfl rfl (by simp))) ?_
  have hkey : P.destroyL c.vm = bif !(P.gs (ix c.vm)).live then .error 3 else bif (P.gs (ix c.vm)).vcpus.any (fun x => decide (0 ≤ x)) then .error 6
      else .ok ((P.gone c.vm).setGs (ix c.vm) ⟨false, (P.gone c.vm).owns c.vm, 0, [], []⟩) := by
    rw [PtD.destroyL, hb]; rfl
  rw [hkey]
  cases hA : (P.gs (ix c.vm)).live
  · rw [show firstL [bif false then 0 else 3, bif !((P.gs (ix c.vm)).vcpus.any fun x => decide (0 ≤ x)) then 0 else 6] = 3 from rfl]
    refine runC ?_
    refine fin1 ?_
    rfl
  cases hB : (P.gs (ix c.vm)).vcpus.any fun x => decide (0 ≤ x)
  rotate_left
  · rw [show firstL [bif true then 0 else 3, bif !true then 0 else 6] = 6 from rfl]
    refine runC ?_
    refine fin1 ?_
    rfl
  rw [show firstL [bif true then 0 else 3, bif !false then 0 else 6] = 0 from rfl]
  refine runC ?_
  refine loopS (σ := Nat × Array Value) (fun s => [(49, .int .i64 (s.1 : Int))]) (fun s => ⟨C, #[.int .i64 c.kind, .int .i64 c.vm, .int .i64 c.frame, .int .i64 c.mid, .int .i64 c.vcpu, .int .i64 c.ccpu], 37⟩ :: ⟨Y.pb, s.2, 51⟩ :: ⟨bx, #[Y.pv P, Y.gv P, Y.ov P], 66⟩ :: ⟨Y.gb, Y.gc, 57⟩ :: ⟨Y.ob, Y.oc, 59⟩ :: ghs Y.G 4) (fun s => s.1 ≤ P.pages.length ∧ OwnP (P.sweep c.vm s.1) { Y with pc := s.2 }) (fun s => P.pages.length - s.1) (0, Y.pc) ⟨Nat.zero_le _, h⟩ (hh := by (refine hpLe_cnt fun a => ?_; simp only [cntB_app, cntB_cons, cntB_nil]; omega)) ?_
  rintro ⟨k, pc⟩ m hm' ⟨hk, hO⟩
  dsimp only at hm' hk hO ⊢
  have hcl := PtD.sweep_len P c.vm k
  refine run ?_
  refine st_cond _ rfl (fun hc => ?_) (fun hc => ?_)
  · have hlt : k < P.pages.length := by simp at hc; omega
    have hps := hO.psz
    rw [hcl] at hps
    dsimp only at hps
    have hkl : k < (P.sweep c.vm k).pages.length := by rw [hcl]; exact hlt
    have hpgk : (P.sweep c.vm k).pg k = P.pg k := by rw [PtD.sweep_pg P c.vm k hk k, if_neg (by omega)]
    have hp0 := hO.p0' hkl
    have hp1 := hO.p1' hkl
    rw [hpgk] at hp0 hp1
    dsimp only at hp0 hp1
    refine run ?_
    refine drawAll ?_
    refine runDG ?_
    refine runC ?_
    refine st_cond _ rfl (fun hq => ?_) (fun hq => ?_)
    · refine runC ?_
      have hsw : PtD.swept c.vm (P.pg k) = ⟨(P.pg k).own, -2⟩ := by rw [PtD.swept, hq]; rfl
      have h1 := hO.setP hkl ⟨(P.pg k).own, -2⟩ (pc := pc.setIfInBounds (k * 2 + 1) (.int .i64 (-2))) (by
        have := hO.pg.put pg_len (pg_at hkl) (k := 1) (vs := [.int .i64 (-2)]) (by simp)
        rw [hpgk] at this
        exact this) ⟨(h.wf.pg k hlt).1, (show I64 (-2) from ⟨by decide, by decide⟩)⟩
      rw [← hsw] at h1
      exact nextS (k + 1, pc.setIfInBounds (k * 2 + 1) (.int .i64 (-2))) (hm := by dsimp only; omega) ⟨hlt, h1⟩ (h2 := by (refine hpLe_cnt fun a => ?_; simp only [cntB_app, cntB_cons, cntB_nil]; omega))
    · refine runC ?_
      have hsw : PtD.swept c.vm (P.pg k) = P.pg k := by rw [PtD.swept, hq]; rfl
      have h1 : OwnP (P.sweep c.vm (k + 1)) { Y with pc := pc } := by
        rw [PtD.sweep, hsw, PtD.setPg_same hkl hpgk]; exact hO
      exact nextS (k + 1, pc) (hm := by dsimp only; omega) ⟨hlt, h1⟩ (h2 := by (refine hpLe_cnt fun a => ?_; simp only [cntB_app, cntB_cons, cntB_nil]; omega))
  · have hkn : k = P.pages.length := by simp at hc; omega
    subst hkn
    obtain ⟨_, f0, f1, _⟩ := (PtD.may_ok.1 hm).liv _ hi hA
    refine run ?_
    refine callB (fun wc hG => tables_e Y.gb (ix c.vm * 5) (P.gs (ix c.vm)).first (by omega) (by omega) wc ?_) (fun v hv hT => ?_)
    · have h1 := hG.here ⟨Y.gb, Y.gc, 57⟩ (by simp)
      rw [cell_of_block h1]
      have := n2
      rw [nth_eq] at this
      simpa using this
    obtain ⟨tb, tc, tcur, rfl, rfl, hr⟩ := hT.own.row (n := 5) (by simp) (by omega)
    simp only [List.cons_append, List.nil_append]
    obtain ⟨f, hf⟩ : ∃ f : Nat, (P.gs (ix c.vm)).first = f := ⟨(P.gs (ix c.vm)).first.toNat, by omega⟩
    rw [hf] at f0 f1 hr
    have htc : ∀ k, k < 5 → nth tcur.toList k = some (.int .i64 ((f + k : Nat) : Int)) := by
      intro k hk5
      have : ([(f : Int), f + 1, f + 2, f + 3, f + 4].map inV)[k]? = some (inV ((f + k : Nat) : Int)) := by
        rcases k with _ | _ | _ | _ | _ | k
        · rfl
        · rfl
        · rfl
        · rfl
        · rfl
        · omega
      have h2 := hr.nth (fun c hc => (in_all c hc).1) this (k := 0) rfl
      simpa using h2
    have htsz : 5 ≤ tcur.size := by have := hr.size; have := hr.le; omega
    refine runC ?_
    refine loopS (σ := Nat × Array Value) (fun s => [(89, .int .i64 (s.1 : Int))]) (fun s => ⟨tb, tcur, 3⟩ :: ⟨C, #[.int .i64 c.kind, .int .i64 c.vm, .int .i64 c.frame, .int .i64 c.mid, .int .i64 c.vcpu, .int .i64 c.ccpu], 37⟩ :: ⟨Y.pb, s.2, 51⟩ :: ⟨bx, #[Y.pv P, Y.gv P, Y.ov P], 66⟩ :: ⟨Y.gb, Y.gc, 57⟩ :: ⟨Y.ob, Y.oc, 59⟩ :: ghs Y.G 4) (fun s => s.1 ≤ 5 ∧ OwnP ((P.sweep c.vm P.pages.length).frees f s.1) { Y with pc := s.2 }) (fun s => 5 - s.1) (0, pc) ⟨Nat.zero_le _, hO⟩ (hh := by (refine hpLe_cnt fun a => ?_; simp only [cntB_app, cntB_cons, cntB_nil]; omega)) ?_
    rintro ⟨k, pc2⟩ m2 hm2 ⟨hk2, hO2⟩
    dsimp only at hm2 hk2 hO2 ⊢
    have hcl2 : ((P.sweep c.vm P.pages.length).frees f k).pages.length = P.pages.length := by rw [PtD.frees_len]; exact hcl
    refine runC ?_
    refine st_cond _ rfl (fun hc2 => ?_) (fun hc2 => ?_)
    · have hlt : k < 5 := by simp at hc2; omega
      have hps := hO2.psz
      rw [hcl2] at hps
      dsimp only at hps
      have hte := htc k hlt
      refine runC ?_
      refine drawN 7 ?_
      refine runD ?_
      refine callD (fun wc hG => free_e wc) ?_
      refine runD ?_
      refine runC ?_
      have hfk : f + k < ((P.sweep c.vm P.pages.length).frees f k).pages.length := by rw [hcl2]; omega
      have h1 := hO2.setP hfk ⟨0, -2⟩ (pc := (pc2.setIfInBounds ((f + k) * 2) (.int .i64 0)).setIfInBounds ((f + k) * 2 + 1) (.int .i64 (-2))) (by
        have := hO2.pg.put pg_len (pg_at hfk) (k := 0) (vs := pgV ⟨0, -2⟩) (by simp [pgV])
        exact this) ⟨⟨by decide, by decide⟩, ⟨by decide, by decide⟩⟩
      exact nextS (k + 1, (pc2.setIfInBounds ((f + k) * 2) (.int .i64 0)).setIfInBounds ((f + k) * 2 + 1) (.int .i64 (-2))) (hm := by dsimp only; omega) ⟨hlt, h1⟩ (h2 := by (refine hpLe_cnt fun a => ?_; simp only [cntB_app, cntB_cons, cntB_nil]; omega))
    · have hk5 : k = 5 := by simp at hc2; omega
      subst hk5
      have hgone : P.gone c.vm = (P.sweep c.vm P.pages.length).frees f 5 := by rw [PtD.gone, hf]; rfl
      rw [← hgone] at hO2 hcl2
      have l2 : (P.gone c.vm).guests.length = P.guests.length := by rw [hgone, PtD.frees_gs, PtD.sweep_gs]
      have l3 : (P.gone c.vm).on.length = P.on.length := by rw [hgone, PtD.frees_on, PtD.sweep_on]
      have hd2 : ∀ tx, Lay.hd { Y with pc := pc2 } (P.gone c.vm) bx tx = ⟨bx, #[Y.pv P, Y.gv P, Y.ov P], tx⟩ :: ⟨Y.pb, pc2, 51⟩ :: ⟨Y.gb, Y.gc, 57⟩ :: ⟨Y.ob, Y.oc, 59⟩ :: ghs Y.G 4 := by
        intro tx
        simp only [Lay.hd, Lay.in, Lay.pv, Lay.gv, Lay.ov, hcl2, l2, l3]
      clear hO hr htc hgone
      obtain ⟨Y2, eY⟩ : ∃ Y2, Y2 = ({ Y with pc := pc2 } : Lay) := ⟨_, rfl⟩
      rw [← eY] at hO2 hd2
      have e1 : Y2.gb = Y.gb := by rw [eY]
      have e2 : Y2.gc = Y.gc := by rw [eY]
      have e3 : Y2.G = Y.G := by rw [eY]
      refine runC ?_
      refine callE (fun wc hG => owns_e (hO2.partQ (bx := bx) (tx := 66) (show Here (Lay.hd Y2 _ bx _) wc from hG.here' (by rw [hd2]; (refine hpLe_cnt fun a => ?_; simp only [cntB_app, cntB_cons, cntB_nil]; omega)))) _) ?_
      refine runC ?_
      refine fin1 ?_
      have hrow := hO2.gs.put gs_len (hO2.rowG hi) (k := 0) (vs := [.bool false, .bool ((P.gone c.vm).owns c.vm), .int .i64 0, .slice none 0 0, .slice none 0 0]) (by simp)
      have h1 := hO2.setG hi ⟨false, (P.gone c.vm).owns c.vm, 0, [], []⟩ ⟨.slice none 0 0, .slice none 0 0, [], []⟩ (gc := putAt Y2.gc (ix c.vm * 5) [.bool false, .bool ((P.gone c.vm).owns c.vm), .int .i64 0, .slice none 0 0, .slice none 0 0]) hrow ⟨by simp, .inl ⟨rfl, rfl, rfl⟩⟩ ⟨by simp, .inl ⟨rfl, rfl, rfl⟩⟩ ⟨(show I64 0 from ⟨by decide, by decide⟩), by simp, by simp⟩ ⟨by simp, by simp⟩
      refine ⟨rfl, _, h1, hle_eq (hdG Y2 _ _ _ _ _ _ _) ?_⟩
      obtain ⟨r, g1, g2⟩ := ghs_upd Y.G hi
      have g3 := g2 (.slice none 0 0) (.slice none 0 0) [] []
      rw [(List.cons.inj (hd2 66)).1, e2, e3, eY]
      simp only [putAt]
      (refine hpLe_cnt fun a => ?_; have := HpLe.cnt g3 a; have := HpLe.cnt g1 a; simp only [cntB_app, cntB_cons, cntB_nil] at *; omega)
end
end Go.Proofs.Ytjnndchkblnkgaa
