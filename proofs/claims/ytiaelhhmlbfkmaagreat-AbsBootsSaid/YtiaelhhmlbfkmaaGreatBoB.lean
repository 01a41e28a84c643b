/- Layer 20 (boot): the document's. -/
import Derived.Test.YtiaelhhmlbfkmaaGreatBoA
namespace Go.Proofs.YtiaelhhmlbfkmaaGreat
open Go.RowKit
set_option linter.unusedVariables false
set_option linter.unusedSimpArgs false
set_option maxRecDepth 20000
attribute [local irreducible] Hy St Ops DH DHF DE1 DE2 DE3 DS DCh
theorem rLeaf_e (f soft : Int) (w : World) : Fn Tryz.prog 65 [.int .i64 f, .int .i64 soft].toArray w [] (fun u _ => u = dsV (leafD f soft)) := by
  refine enter Tryz.func65 ?_
  refine run ?_
  intro B
  refine run ?_
  exact finA (cs := #[.int .i64 2, .int .i64 f, .bool true, .bool true, .bool true, .bool true, .bool false, .int .i64 soft, .int .i64 0]) rfl
theorem rOwn_e (own wth f : Int) (ho : own ≤ 1000) (h1 : -1 ≤ own) (w : World) : Fn Tryz.prog 66 [.agg #[.int .i64 own, .int .i64 wth], .int .i64 f].toArray w [] (fun u _ => u = dsV (ownD own wth f)) := by
  refine enter Tryz.func66 ?_
  refine run ?_
  intro B C
  refine runG ?_
  refine st_cond _ rfl (fun hc => ?_) (fun hc => ?_)
  · refine run ?_
    refine callE (fun wc hG => rLeaf_e f 0 wc) ?_
    refine run ?_
    rw [show ownD own wth f = leafD f 0 by unfold ownD; rw [hc, cond_true]]
    exact finA (cs := #[.int .i64 (leafD f 0).kind, .int .i64 (leafD f 0).frame, .bool (leafD f 0).r, .bool (leafD f 0).w, .bool (leafD f 0).x, .bool (leafD f 0).af, .bool (leafD f 0).ng, .int .i64 (leafD f 0).soft, .int .i64 (leafD f 0).note]) rfl
  refine run ?_
  refine st_cond _ rfl (fun hc2 => ?_) (fun hc2 => ?_)
  · refine run ?_
    refine callE (fun wc hG => rLeaf_e f 1 wc) ?_
    refine run ?_
    rw [show ownD own wth f = leafD f 1 by unfold ownD; rw [hc, cond_false, hc2, cond_true]]
    exact finA (cs := #[.int .i64 (leafD f 1).kind, .int .i64 (leafD f 1).frame, .bool (leafD f 1).r, .bool (leafD f 1).w, .bool (leafD f 1).x, .bool (leafD f 1).af, .bool (leafD f 1).ng, .int .i64 (leafD f 1).soft, .int .i64 (leafD f 1).note]) rfl
  refine run ?_
  refine st_cond _ rfl (fun hc3 => ?_) (fun hc3 => ?_)
  · refine run ?_
    refine callE (fun wc hG => rLeaf_e f 2 wc) ?_
    refine run ?_
    rw [show ownD own wth f = leafD f 2 by unfold ownD; rw [hc, cond_false, hc2, cond_false, hc3, cond_true]]
    exact finA (cs := #[.int .i64 (leafD f 2).kind, .int .i64 (leafD f 2).frame, .bool (leafD f 2).r, .bool (leafD f 2).w, .bool (leafD f 2).x, .bool (leafD f 2).af, .bool (leafD f 2).ng, .int .i64 (leafD f 2).soft, .int .i64 (leafD f 2).note]) rfl
  refine run ?_
  refine st_cond _ rfl (fun hc4 => ?_) (fun hc4 => ?_)
  · refine run ?_
    rw [show ownD own wth f = noteD 1 by unfold ownD; rw [hc, cond_false, hc2, cond_false, hc3, cond_false, hc4, cond_true]]
    exact finA (cs := #[.int .i64 0, .int .i64 0, .bool false, .bool false, .bool false, .bool false, .bool false, .int .i64 0, .int .i64 1]) rfl
  refine run ?_
  rw [show ownD own wth f = noteD (1 + own) by unfold ownD; rw [hc, cond_false, hc2, cond_false, hc3, cond_false, hc4, cond_false]]
  exact finA (cs := #[.int .i64 0, .int .i64 0, .bool false, .bool false, .bool false, .bool false, .bool false, .int .i64 0, .int .i64 (1 + own)]) rfl
def pagesD (pages : List PgD) (k : Nat) : DsD := bif decide (k < pages.length) then ownD (pages.getD k default).own (pages.getD k default).wit k else noDs
theorem leaf_may {k : Nat} (hk : k < 64) {s : Int} (h0 : 0 ≤ s) (h1 : s ≤ 15) : (leafD (k : Int) s).may 2 3 = true := by
  simp [DsD.may, leafD, PtD.btw, h0, h1, coversN, dbits, Nat.mod_one]
  apply decide_eq_true
  show (k : Int) ≤ 4095
  omega
theorem ownD_may {own wth : Int} {k : Nat} (hk : k < 64) (h0 : -1 ≤ own) (h1 : own ≤ 14) : (ownD own wth k).may 2 3 = true := by
  unfold ownD
  refine cond_P (P := fun d => DsD.may 2 3 d = true) (leaf_may hk (by decide) (by decide)) (cond_P (P := fun d => DsD.may 2 3 d = true) (leaf_may hk (by decide) (by decide)) (cond_P (P := fun d => DsD.may 2 3 d = true) (leaf_may hk (by decide) (by decide)) (cond_P (P := fun d => DsD.may 2 3 d = true) (by decide) (noteD_may (by omega) (by omega)))))
theorem pagesD_may {pages : List PgD} (hpg : ∀ a ∈ pages, -1 ≤ a.own ∧ a.own ≤ 14) {k : Nat} (hk : k < 64) : (pagesD pages k).may 2 3 = true := by
  unfold pagesD
  cases h : decide (k < pages.length) with
  | false => exact noDs_may 2 3
  | true =>
    have := hpg _ (getD_mem (by simpa using h))
    exact ownD_may hk this.1 this.2
theorem rTables_e (F : Nat) (hF1 : 16 ≤ F) (hF : F ≤ 64) (pages : List PgD) (hpg : ∀ a ∈ pages, -1 ≤ a.own ∧ a.own ≤ 14) {w : World} {pv : Value} (h : SlAt w pv 2 (pages.map pgV)) : Fn Tryz.prog 33 [.int .i64 (F : Int), pv].toArray w [] (fun u hn => MemR (tabK (F * 8) (pagesD pages) 64).ws u hn) := by
  obtain ⟨q, cap, rfl, hne, hle⟩ := h.opened
  refine enter Tryz.func33 ?_
  refine run ?_
  intro R
  rw [show (F : Int) * 8 = ((F * 8 : Nat) : Int) by omega]
  refine make (m := F * 8) (fun Z => ?_) (by omega)
  refine run ?_
  intro M A
  refine run ?_
  have hF128 : 128 ≤ F * 8 := by omega
  have hM0 : Own 47 1 (.slice (some ⟨Z, 0, none⟩) (F * 8) (F * 8)) [⟨Z, madeCells (Value.int .u64 0).cells (F * 8 * 1), 47⟩] ((memF (F * 8) (expW (pagesD pages) 0)).map uV) := by
    have := own_made Z (F * 8) (by omega)
    rw [memF_zero] at this
    exact this
  have hL0 : Own 3 1 (.slice (some ⟨A, 0, none⟩) 15 15) [⟨A, #[.int .i64 1, .int .i64 2, .int .i64 3, .int .i64 4, .int .i64 5, .int .i64 6, .int .i64 7, .int .i64 8, .int .i64 9, .int .i64 10, .int .i64 11, .int .i64 12, .int .i64 13, .int .i64 14, .int .i64 15], 3⟩] ((leftB 0).map inV) := own_row A 15 _ rfl rfl (by intro c hc; obtain ⟨x, _, rfl⟩ := List.mem_map.1 hc; exact ⟨rfl, rfl⟩)
  refine loopS (σ := Nat × Option Addr × Nat × Hp × Option Addr × Nat × Hp) (fun s => [(7, .int .i64 (s.1 : Int)), (6, .slice s.2.2.2.2.1 (leftB s.1).length s.2.2.2.2.2.1)]) (fun s => ⟨M, #[.slice s.2.1 (F * 8) s.2.2.1], 24⟩ :: ⟨R, #[.slice none 0 0], 24⟩ :: (s.2.2.2.2.2.2 ++ s.2.2.2.1)) (fun s => s.1 ≤ 64 ∧ Own 47 1 (.slice s.2.1 (F * 8) s.2.2.1) s.2.2.2.1 ((memF (F * 8) (expW (pagesD pages) s.1)).map uV) ∧ Own 3 1 (.slice s.2.2.2.2.1 (leftB s.1).length s.2.2.2.2.2.1) s.2.2.2.2.2.2 ((leftB s.1).map inV)) (fun s => 64 - s.1) (0, some ⟨Z, 0, none⟩, F * 8, _, some ⟨A, 0, none⟩, 15, _) ⟨(by decide : 0 ≤ 64), hM0, hL0⟩ ?_ (hh := by (exact clcntL))
  rintro ⟨k, mq, mc, hm, fq, fc, hf⟩ m hmm ⟨hk, hM, hL⟩
  dsimp only at hmm hk hM hL ⊢
  refine run ?_
  refine st_cond _ rfl (fun hc => ?_) (fun hc => ?_)
  · have hlt : k < 64 := by simp at hc; omega
    have hn : (memF (F * 8) (expW (pagesD pages) k)).length = F * 8 := memF_len _ _
    have hw64 : W64 (memF (F * 8) (expW (pagesD pages) k)) := W64.memF (expW_lt _ _)
    refine run ?_
    have hll : (leftB k).length < 1000 := by
      have : ∀ k, k < 65 → (leftB k).length < 1000 := by decide +kernel
      exact this k (by omega)
    obtain ⟨q', c', eq', hcl, hq'⟩ := hL.openedQ
    injection eq' with e1 e2 e3
    subst e1 e3
    have hstep := tabK_exp hF128 (pagesD pages) (k + 1) (by omega)
    rw [tabK, tabK_exp hF128 (pagesD pages) k (by omega)] at hstep
    dsimp only at hstep
    have hTk := mapL_ok hw64 0 (leftB k) k (leafD k 0)
    refine drawED 11 [0, 1, 2, 3, 4] [5, 10] [6, 7, 8, 9] [12, 13] [11] ?_
    refine runS ?_
    refine sCallE (fun wc hx hG => rLeaf_e k 0 wc) ?_
    refine runS ?_
    refine eCall (R := fun u hn => MapR (mapL (memF (F * 8) (expW (pagesD pages) k)) 0 (leftB k) k (leafD k 0)) u hn) (fun wc hG => rMap_e _ hw64 (hM.lie (fun b hb => hG.here b (by simp [hb])) (by simp [hn]; omega)) _ (hL.lie (fun b hb => hG.here b (by simp [hb])) (by simp; omega)) ⟨_, _, rfl, hcl⟩ 0 k (by omega) (leafD k 0) (leaf_may hlt (by decide) (by decide)) (by rw [hn]; omega) (by omega)) (mapR_ex _ (by have := hTk.2.1; omega) (by have := hTk.2.2; omega)) ?_
    refine eAlloc ?_
    refine eNil ?_
    generalize mapL (memF (F * 8) (expW (pagesD pages) k)) 0 (leftB k) k (leafD k 0) = T at hTk hstep
    obtain ⟨tw, tl, te⟩ := T
    obtain ⟨hT64, hTl, hTf⟩ := hTk
    dsimp only at hT64 hTl hTf hstep
    rw [TbR.mk.injEq] at hstep
    obtain ⟨hs1, hs2, _⟩ := hstep
    rintro _ _ ⟨X, rfl, rfl⟩ u hn2 ⟨v2, h2, vl2, hl2, rfl, hO2, hL2, hle2⟩
    dsimp only at hO2 hL2
    obtain ⟨q2', c2', e2⟩ := hO2.opened
    rw [List.length_map] at e2
    subst e2
    refine dMove ?_
    refine dExtract ?_
    refine dExtract ?_
    refine dExtract ?_
    refine dNil ?_
    refine dAssign ?_
    refine dAssign ?_
    refine dNil ?_
    simp only [DN, List.cons_append, List.nil_append, List.append_nil]
    refine cPut ?_
    refine dc_nil ?_
    refine opsC ?_
    refine ops_le (⟨X, #[.slice q2' tw.length c2'], 24⟩ :: ⟨M, #[.slice mq (F * 8) mc], 24⟩ :: ⟨R, #[.slice none 0 0], 24⟩ :: (h2 ++ hl2)) (cnt1 hle2) ?_
    refine run ?_
    intro D
    refine st_cutD (σ := DsD) (fun _ => []) (fun d => ⟨D, #[.int .i64 (d).kind, .int .i64 (d).frame, .bool (d).r, .bool (d).w, .bool (d).x, .bool (d).af, .bool (d).ng, .int .i64 (d).soft, .int .i64 (d).note], 124⟩ :: ⟨X, #[.slice q2' tw.length c2'], 24⟩ :: ⟨M, #[.slice mq (F * 8) mc], 24⟩ :: ⟨R, #[.slice none 0 0], 24⟩ :: (h2 ++ hl2)) (fun d => d = pagesD pages k) ?_ ?_
    · refine st_cond _ rfl (fun hc2 => ?_) (fun hc2 => ?_)
      · have hlp : k < pages.length := by simpa using hc2
        obtain ⟨b3, o3, rfl⟩ := hne (by intro e; rw [e] at hlp; simp at hlp)
        have hr := h.row hlp
        have hpk := hpg _ (getD_mem hlp)
        have hd : pagesD pages k = ownD (pages.getD k default).own (pages.getD k default).wit k := by simp only [pagesD, hlp, decide_true, cond_true]
        generalize pages.getD k default = a at hr hpk hd
        refine run ?_
        refine callE (fun wc hG => rOwn_e a.own a.wit k (by omega) hpk.1 wc) ?_
        refine run ?_
        exact meetS _ hd.symm
      · have hlp : decide (k < pages.length) = false := by simpa using hc2
        have hd : pagesD pages k = noDs := by simp only [pagesD, hlp, cond_false]
        refine run ?_
        exact meetS noDs hd.symm
    rintro d hd
    have hdm : d.may 2 3 = true := by rw [hd]; exact pagesD_may hpg hlt
    rw [← hd] at hs1
    clear hd
    refine run ?_
    refine callB (fun wc hG => rPut_e tw hT64 (hO2.lie (fun b hb => hG.here b (by simp [hb])) (by rw [List.length_map]; omega)) 0 k (by omega) 3 (by decide) d hdm (by omega)) ?_
    rintro u hn3 ⟨v3, h3, rfl, hO3, hle3⟩
    rw [hs1] at hO3
    obtain ⟨q3, c3, e3⟩ := hO3.opened
    rw [List.length_map, memF_len] at e3
    subst e3
    rw [hs2] at hL2
    obtain ⟨q4, c4, e4⟩ := hL2.opened
    rw [List.length_map] at e4
    subst e4
    refine ops_le (⟨D, #[.int .i64 (d).kind, .int .i64 (d).frame, .bool (d).r, .bool (d).w, .bool (d).x, .bool (d).af, .bool (d).ng, .int .i64 (d).soft, .int .i64 (d).note], 124⟩ :: ⟨X, #[.slice q2' tw.length c2'], 24⟩ :: ⟨M, #[.slice mq (F * 8) mc], 24⟩ :: ⟨R, #[.slice none 0 0], 24⟩ :: (h3 ++ hl2)) (cnt1 hle3) ?_
    refine run ?_
    refine nextS (k + 1, q3, c3, h3, q4, c4, hl2) ⟨hlt, hO3, hL2⟩ (hm := by dsimp only; omega) (h2 := by (exact clcntL))
  have hk64 : k = 64 := by simp at hc; omega
  subst hk64
  refine run ?_
  rw [tabK_exp hF128 (pagesD pages) 64 (Nat.le_refl _)]
  exact finA (cs := #[.slice mq (F * 8) mc]) ⟨_, hm, rfl, hM, by (exact clcntL)⟩
theorem boot_pages {F C : Nat} (hF1 : 16 ≤ F) (k : Nat) : pagesD (bootL F C).pages k = bootD F k := by
  unfold pagesD bootD
  have hl : (bootL F C).pages.length = F := by simp [bootL]
  rw [hl]
  by_cases hF : k < F
  · have e1 : decide (k < F) = true := by simpa using hF
    have e2 : decide (F ≤ k) = false := by simp; omega
    have e3 : (bootL F C).pages.getD k default = ⟨bif decide (k < 16) then -1 else 0, -2⟩ := by
      simp [bootL, List.getD_eq_getElem?_getD, List.getElem?_range hF]
    rw [e1, e2, e3, cond_true, cond_false]
    cases decide (k < 16) <;> rfl
  · have e1 : decide (k < F) = false := by simpa using hF
    have e2 : decide (F ≤ k) = true := by simp; omega
    have e3 : decide (k < 16) = false := by simp; omega
    rw [e1, e2, e3, cond_false, cond_true, cond_false]
theorem tabK_congr {n : Nat} {dd dd' : Nat → DsD} (h : ∀ k, dd k = dd' k) : ∀ j, tabK n dd j = tabK n dd' j := by
  intro j
  induction j with
  | zero => rfl
  | succ j ih => rw [tabK, tabK, ih, h j]
theorem boot_tab {F C : Nat} (hF1 : 16 ≤ F) : (tabK (F * 8) (pagesD (bootL F C).pages) 64).ws = memF (F * 8) (putW F 64) := by
  rw [tabK_congr (boot_pages hF1), ← boot_words (by omega) F, bPut_exp (by omega) F 64 (Nat.le_refl _)]
theorem boot_own {F C : Nat} : ∀ a ∈ (bootL F C).pages, -1 ≤ a.own ∧ a.own ≤ 14 := by
  intro a ha
  obtain ⟨k, _, rfl⟩ := List.mem_map.1 ha
  dsimp only
  cases decide (k < 16) <;> decide
theorem rBoot_e (F C : Nat) (hF1 : 24 ≤ F) (hF : F ≤ 64) (hC1 : 1 ≤ C) (hC : C ≤ 3) (w : World) : Fn Tryz.prog 15 [.int .i64 (F : Int), .int .i64 (C : Int)].toArray w [] (fun u hn => ∃ p1 c1 p2 c2 p3 c3 p4 c4, u = .agg #[.slice p1 (F * 8) c1, .slice p2 C c2, .slice p3 4 c3, .slice p4 C c4] ∧ ∀ w, Here hn w → HyAt w (.slice p1 (F * 8) c1) (.slice p2 C c2) (.slice p3 4 c3) (.slice p4 C c4) (memF (F * 8) (putW F 64)) (List.replicate C cpu0) (List.replicate 4 vm0) (List.replicate C noRg)) := by
  refine enter Tryz.func15 ?_
  refine run ?_
  intro R
  refine run ?_
  refine callB (fun wc hG => bootR_e F C hF (by omega) hC wc) ?_
  rintro u hn ⟨pv, gv, ov, rfl, hP⟩
  refine ops_good fun w1 hG1 => ?_
  have hP1 := hP w1 (fun b hb => hG1.here b (List.mem_append_left _ hb))
  obtain ⟨p1, pc1, rfl, _⟩ := hP1.pages.opened
  obtain ⟨p3, pc3, rfl, _⟩ := hP1.on.opened
  obtain ⟨g, gc, rfl, _⟩ : ∃ g gc, gv = .slice g (bootL F C).guests.length gc ∧ True := by
    obtain ⟨vv, mv, ⟨⟨g, gc, e, _⟩, hl⟩, _⟩ := hP1.guests
    simp only [List.length_map, List.length_range] at e hl
    exact ⟨g, gc, e, trivial⟩
  clear hP1 hG1
  refine run ?_
  intro X
  refine drawM 10 [0, 1, 2, 4, 7] [3, 5, 6, 8] [9] ?_
  refine runS ?_
  refine eCall (fun wc hG => rTables_e F (by omega) hF (bootL F C).pages boot_own (hP wc (fun b hb => hG.here b (by simp [hb]))).pages) ?_ ?_
  · obtain ⟨v, h1, hO⟩ := own_ex (e := 47) ((tabK (F * 8) (pagesD (bootL F C).pages) 64).ws.map uV) (fun c hc => by obtain ⟨x, _, rfl⟩ := List.mem_map.1 hc; exact ⟨rfl, rfl⟩) (by rw [List.length_map, boot_tab (by omega), memF_len]; omega)
    exact ⟨_, h1, v, h1, rfl, hO, HpLe.refl _⟩
  refine eMake (m := C) (sz := 19) (z := .agg #[.int .u64 0, .int .u64 0, .int .u64 0, .int .u64 0, .int .u64 0, .int .u64 0, .int .u64 0, .int .u64 0, .int .u64 0, .int .u64 0, .int .u64 0, .int .u64 0, .int .u64 0, .int .u64 0, .int .u64 0, .int .i64 0, .int .i64 0, .slice none 0 0, .slice none 0 0]) ?_ (by omega) (hcs := by exact made_rows [.int .u64 0, .int .u64 0, .int .u64 0, .int .u64 0, .int .u64 0, .int .u64 0, .int .u64 0, .int .u64 0, .int .u64 0, .int .u64 0, .int .u64 0, .int .u64 0, .int .u64 0, .int .u64 0, .int .u64 0, .int .i64 0, .int .i64 0, .slice none 0 0, .slice none 0 0] C 19 rfl (by omega))
  refine eMake (m := 4) (sz := 6) (z := .agg #[.bool false, .bool false, .int .i64 0, .slice none 0 0, .slice none 0 0, .slice none 0 0]) ?_ (by omega) (hcs := by exact made_rows [.bool false, .bool false, .int .i64 0, .slice none 0 0, .slice none 0 0, .slice none 0 0] 4 6 rfl (by omega))
  refine eMake (m := C) (sz := 15) (z := .agg #[.int .u64 0, .int .u64 0, .int .u64 0, .int .u64 0, .int .u64 0, .int .u64 0, .int .u64 0, .int .u64 0, .int .u64 0, .int .u64 0, .int .u64 0, .int .u64 0, .int .u64 0, .int .u64 0, .int .u64 0]) ?_ (by omega) (hcs := by exact made_rows [.int .u64 0, .int .u64 0, .int .u64 0, .int .u64 0, .int .u64 0, .int .u64 0, .int .u64 0, .int .u64 0, .int .u64 0, .int .u64 0, .int .u64 0, .int .u64 0, .int .u64 0, .int .u64 0, .int .u64 0] C 15 rfl (by omega))
  refine eNil ?_
  rintro _ _ ⟨Bh, rfl, rfl⟩ _ _ ⟨Bv, rfl, rfl⟩ _ _ ⟨Bc, rfl, rfl⟩ u hn2 ⟨v2, h2, rfl, hO, hle2⟩
  rw [boot_tab (by omega)] at hO
  obtain ⟨q, cap, e2⟩ := hO.opened
  rw [List.length_map, memF_len] at e2
  subst e2
  refine dBuild ?_
  refine dNil ?_
  refine opsF ?_
  simp only [List.cons_append, List.nil_append]
  obtain ⟨CC, hCC⟩ : ∃ G : Array Value, G = ((List.replicate C [.int .u64 0, .int .u64 0, .int .u64 0, .int .u64 0, .int .u64 0, .int .u64 0, .int .u64 0, .int .u64 0, .int .u64 0, .int .u64 0, .int .u64 0, .int .u64 0, .int .u64 0, .int .u64 0, .int .u64 0, .int .i64 0, .int .i64 0, .slice none 0 0, .slice none 0 0]).flatten).toArray := ⟨_, rfl⟩
  obtain ⟨VC, hVC⟩ : ∃ G : Array Value, G = ((List.replicate 4 [.bool false, .bool false, .int .i64 0, .slice none 0 0, .slice none 0 0, .slice none 0 0]).flatten).toArray := ⟨_, rfl⟩
  obtain ⟨RC, hRC⟩ : ∃ G : Array Value, G = ((List.replicate C [.int .u64 0, .int .u64 0, .int .u64 0, .int .u64 0, .int .u64 0, .int .u64 0, .int .u64 0, .int .u64 0, .int .u64 0, .int .u64 0, .int .u64 0, .int .u64 0, .int .u64 0, .int .u64 0, .int .u64 0]).flatten).toArray := ⟨_, rfl⟩
  rw [← hCC, ← hVC, ← hRC]
  refine ops_le (⟨R, #[.slice none 0 0, .slice none 0 0, .slice none 0 0, .slice none 0 0], 29⟩ :: ⟨Bh, RC, 78⟩ :: ⟨Bv, VC, 111⟩ :: ⟨Bc, CC, 84⟩ :: h2) (cnt1 hle2) ?_
  refine run ?_
  refine finA (cs := #[.slice q (F * 8) cap, .slice (some ⟨Bc, 0, none⟩) C C, .slice (some ⟨Bv, 0, none⟩) 4 4, .slice (some ⟨Bh, 0, none⟩) C C]) ?_
  subst hCC hVC hRC
  exact ⟨_, _, _, _, _, _, _, _, rfl, fun w' hw' => ⟨W64.memF (putW_lt _ _), hO.lie (hw'.sub fun e he => by simp [he]) (by simp [memF_len]; omega), CpAt.zero (t := 84) (hw' _ (.tail _ (.tail _ (.tail _ (.head _))))) (by omega), VmAt.zero (t := 111) (hw' _ (.tail _ (.tail _ (.head _)))) (by omega), rg_zero (t := 78) (hw' _ (.tail _ (.head _))) (by omega)⟩⟩
end Go.Proofs.YtiaelhhmlbfkmaaGreat
