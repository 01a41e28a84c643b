/- Layer 16: the program's questions, free frames, Get, Put. -/
import Derived.Test.YtiaelhhmlbfkmaaGreatPgE
import Derived.Test.YtiaelhhmlbfkmaaGreatEngR
namespace Go.Proofs.YtiaelhhmlbfkmaaGreat
open Go.RowKit
set_option linter.unusedVariables false
set_option linter.unusedSimpArgs false
set_option maxRecDepth 20000
attribute [local irreducible] Hy St Ops DH DHF
/-- May a page of a memory be asked about? -/
def askOk (n : Nat) (page : Int) : Bool := memOk n && PtD.btw page 0 4095
theorem askOk_iff {n : Nat} {page : Int} (h : askOk n page = true) : memOk n = true ∧ (8 ≤ n ∧ n ≤ 512) ∧ ((page.toNat : Nat) : Int) = page ∧ page.toNat ≤ 4095 := by
  simp only [askOk, Bool.and_eq_true] at h
  have h1 := memOk_iff h.1
  have h2 := btw_toNat h.2
  exact ⟨h.1, ⟨h1.1, h1.2.1⟩, h2.1, h2.2⟩
theorem gAskedF_e {n cap : Nat} {q : Option Addr} (hn : n < 1000000) (root page : Int) (down : Nat) (hd : down < 4) (hk : askOk n page = false) (w : World) : Fn Tryz.prog 151 [.agg #[.slice q n cap], .int .i64 root, .int .i64 page, .int .i64 (down : Int)].toArray w [] (fun u hn => u = .tuple #[.agg #[.slice none 0 0, .int .i64 0], .agg #[.int .i64 0, .int .i64 0, .bool false, .bool false, .bool false, .bool false, .bool false, .int .i64 0, .int .i64 0, .slice none 0 0], .int .i64 1]) := by
  refine enter Tryz.func151 ?_
  refine run ?_
  intro B C D
  refine run ?_
  refine callE (fun wc hG => mCheck_e n cap (by omega) q wc) ?_
  refine runC ?_
  refine st_cond _ rfl (fun hc => ?_) (fun hc => ?_)
  · refine run ?_
    refine drawC 4 2 [0, 1] [2, 3] [⟨D, #[.int .i64 0, .int .i64 0, .bool false, .bool false, .bool false, .bool false, .bool false, .int .i64 0, .int .i64 0, .slice none 0 0], 242⟩, ⟨C, #[.slice none 0 0, .int .i64 0], 239⟩, ⟨B, #[.slice q n cap], 24⟩] ?_
    refine runZ ?_
    refine cStore (b := C) (tb := 239) (cs := #[.slice none 0 0, .int .i64 0]) (cs' := #[.slice none 0 0, .int .i64 0]) (hp' := [⟨D, #[.int .i64 0, .int .i64 0, .bool false, .bool false, .bool false, .bool false, .bool false, .int .i64 0, .int .i64 0, .slice none 0 0], 242⟩, ⟨B, #[.slice q n cap], 24⟩]) ?_ clcntP
    refine cStore (b := D) (tb := 242) (cs := #[.int .i64 0, .int .i64 0, .bool false, .bool false, .bool false, .bool false, .bool false, .int .i64 0, .int .i64 0, .slice none 0 0]) (cs' := #[.int .i64 0, .int .i64 0, .bool false, .bool false, .bool false, .bool false, .bool false, .int .i64 0, .int .i64 0, .slice none 0 0]) (hp' := [⟨C, #[.slice none 0 0, .int .i64 0], 239⟩, ⟨B, #[.slice q n cap], 24⟩]) ?_ clcntP
    refine dc_nil ?_
    refine opsC ?_
    refine run ?_
    exact finAA rfl
  · exfalso
    simp only [askOk, PtD.btw] at hk
    cases hm : memOk n with
    | false => rw [hm] at hc; simp at hc
    | true => rw [hm] at hk hc; simp at hk hc; omega
theorem gPlace_e {fs : List Int} {w : World} {v : Value} (d : DsD) (h : SlAt w v 1 (fs.map inV)) (hl : fs.length ≤ 4) (h0 : 0 < fs.length) {n : Nat} (hn : n < 1000000) (hf : ∀ f ∈ fs, hasF n f = true) (page : Nat) (hp : page ≤ 4095) : Fn Tryz.prog 282 [.agg #[.int .i64 d.kind, .int .i64 d.frame, .bool d.r, .bool d.w, .bool d.x, .bool d.af, .bool d.ng, .int .i64 d.soft, .int .i64 d.note, v], .int .i64 (page : Int)].toArray w [] (fun u _ => u = .int .i64 (atN (fs.getD (fs.length - 1) 0) (fs.length - 1) page : Int)) := by
  obtain ⟨q, cap, rfl, hne, hle⟩ := h.opened
  obtain ⟨b, o, rfl⟩ := hne (by intro e; subst e; simp at h0)
  have hr := rangeAt_cell0 (h.row (k := fs.length - 1) (by omega))
  simp only [Nat.mul_one] at hr
  refine enter Tryz.func282 ?_
  refine run ?_
  intro B
  refine run ?_
  refine drawN 10 ?_
  refine runD ?_
  refine callD (fun wc hG => gLevel_e d _ fs.length cap h0 (by omega) wc) ?_
  refine runD ?_
  refine callD (fun wc hG => gLevel_e d _ fs.length cap h0 (by omega) wc) ?_
  refine runD ?_
  refine callD (fun wc hG => gAtN_e (fs.getD (fs.length - 1) 0) (hf _ (by rw [List.getD_eq_getElem?_getD, List.getElem?_eq_getElem (by omega)]; simp)) hn (fs.length - 1) (by omega) page hp wc) ?_
  refine runD ?_
  refine run ?_
  exact fin1 rfl
theorem gPlaceW_e (W : WkD) {w : World} {v : Value} (d : DsD) (h : SlAt w v 1 (W.fs.map inV)) (hl : W.fs.length ≤ 4) (h0 : 0 < W.fs.length) {n : Nat} (hn : n < 1000000) (hf : ∀ f ∈ W.fs, hasF n f = true) (page : Nat) (hp : page ≤ 4095) : Fn Tryz.prog 282 [.agg #[.int .i64 d.kind, .int .i64 d.frame, .bool d.r, .bool d.w, .bool d.x, .bool d.af, .bool d.ng, .int .i64 d.soft, .int .i64 d.note, v], .int .i64 (page : Int)].toArray w [] (fun u _ => u = .int .i64 (W.place page : Int)) := gPlace_e d h hl h0 hn hf page hp
theorem WkD.Fine.place_lt {W : WkD} {ws : List Nat} {page down : Nat} (h : W.Fine ws page down) : W.place page < ws.length := by
  have h1 := h.pos
  exact atN_lt (h.has _ (by rw [List.getD_eq_getElem?_getD, WkD.lv, List.getElem?_eq_getElem (by omega)]; simp))
theorem gCopied_e {w : World} (xs : List Nat) (v : Value) (root : Int) (h : SlAt w v 1 (xs.map uV)) (hl : xs.length < 1000000) : Fn Tryz.prog 280 [.agg #[v, .int .i64 root]].toArray w [] (fun u hn => ∃ v2 h2, u = .agg #[v2, .int .i64 root] ∧ Own 47 1 v2 h2 (xs.map uV) ∧ HpLe h2 hn) := by
  obtain ⟨q, cap, rfl, hne, hle⟩ := h.opened
  refine enter Tryz.func280 ?_
  refine run ?_
  intro B
  refine run ?_
  intro C
  refine run ?_
  refine drawC 9 8 [0, 1, 2, 5, 6] [3, 4, 7, 8] [⟨B, #[.slice q xs.length cap, .int .i64 root], 239⟩] ?_
  refine runZ ?_
  refine cCall (fun wc hG => cloneWords_e _ (xs.map uV) (h.good hG) (by intro c hc; obtain ⟨x, _, rfl⟩ := List.mem_map.1 hc; exact ⟨rfl, rfl⟩) (by simpa using hl)) ?_
  intro u hn2 hO
  obtain ⟨q2, cap2, rfl⟩ := hO.opened
  refine cBuild ?_
  refine cBuild ?_
  refine cStore (b := C) (tb := 239) (cs := #[.slice none 0 0, .int .i64 0]) (cs' := #[.slice q2 (xs.map uV).length cap2, .int .i64 root]) (hp' := hn2 ++ [⟨B, #[.slice q xs.length cap, .int .i64 root], 239⟩]) ?_ clcntP
  refine dc_nil ?_
  refine opsC ?_
  refine run ?_
  refine finA ⟨_, hn2, rfl, hO, by (exact clcntL)⟩
theorem gFree_e (n cap : Nat) (q : Option Addr) (root : Int) (hn : n < 1000000) (d : DsD) (fs l : List Int) {w : World} {v1 v2 : Value} (h1 : SlAt w v1 1 (l.map inV)) (hc1 : ∃ p c, v1 = .slice p l.length c ∧ l.length ≤ c) (h2 : SlAt w v2 1 (fs.map inV)) (hroot : root ∈ fs) : Fn Tryz.prog 284 [.agg #[.slice q n cap, .int .i64 root], .agg #[.int .i64 d.kind, .int .i64 d.frame, .bool d.r, .bool d.w, .bool d.x, .bool d.af, .bool d.ng, .int .i64 d.soft, .int .i64 d.note, v2], v1].toArray w [] (fun u _ => u = .bool (freeL n fs l)) := by
  obtain ⟨q1, cap1, rfl, hcap1⟩ := hc1
  obtain ⟨_, _, e1, hne1, _⟩ := h1.opened
  injection e1 with e1
  subst e1
  obtain ⟨q2, cap2, rfl, hne2, hle2⟩ := h2.opened
  refine enter Tryz.func284 ?_
  refine run ?_
  intro B C
  refine run ?_
  refine loopS (σ := Nat) (fun k => [(11, .int .i64 (k : Int))]) (fun _ => [⟨C, #[.int .i64 d.kind, .int .i64 d.frame, .bool d.r, .bool d.w, .bool d.x, .bool d.af, .bool d.ng, .int .i64 d.soft, .int .i64 d.note, .slice q2 fs.length cap2], 242⟩, ⟨B, #[.slice q n cap, .int .i64 root], 239⟩]) (fun k => k ≤ l.length ∧ ∀ j, j < k → freeAt n fs l j = true) (fun k => l.length - k) 0 ⟨Nat.zero_le _, fun j hj => absurd hj (by omega)⟩ ?_
  rintro k m rfl ⟨hk, hyes⟩
  refine run ?_
  refine st_cond _ rfl (fun hc => ?_) (fun hc => ?_)
  · have hlt : k < l.length := by simp at hc; omega
    obtain ⟨b, o, rfl⟩ := hne1 (by intro e; subst e; simp at hlt)
    have hr := rangeAt_cell0 (h1.row hlt)
    simp only [Nat.mul_one] at hr
    refine run ?_
    refine callE (fun wc hG => gHas_e n cap q root hn _ wc) ?_
    refine runG ?_
    have hsl : SlAt w (.slice (some ⟨b, o, none⟩) k cap1) 1 ((l.take k).map inV) := h1.takeN (by omega)
    refine opG (v := .slice (some ⟨b, o, none⟩) k cap1) (hy := fun hg1 => by simp only [hg1, gv_true]; exact x_sliceH tb_ok rfl rfl (by rfl) (by omega) (by omega) (m' := k) (by simp) (.inr ⟨_, _, rfl⟩)) (h := ?_)
    refine runG ?_
    refine callEG (fun hg wc hG => containsInt_e _ _ _ (hsl.good hG)) ?_
    refine runG ?_
    refine callEG (fun hg wc hG => containsInt_e _ fs _ (h2.good hG)) ?_
    refine runG ?_
    have e1 : (!hasF n (l.getD k default) || decide (l.getD k default = root) || (l.take k).any (fun t => decide (t = l.getD k default)) || fs.any (fun t => decide (t = l.getD k default))) = !freeAt n fs l k := by
      unfold freeAt
      show _ = !(hasF n (l.getD k default) && !(l.take k).any (fun t => decide (t = l.getD k default)) && !fs.any (fun t => decide (t = l.getD k default)))
      generalize l.getD k default = x
      by_cases hx : x = root
      · have : fs.any (fun t => decide (t = x)) = true := by rw [List.any_eq_true]; exact ⟨x, by rw [hx]; exact hroot, by simp⟩
        rw [this]; simp
      · rw [decide_eq_false hx]
        cases hasF n x <;> cases (l.take k).any (fun t => decide (t = x)) <;> cases fs.any (fun t => decide (t = x)) <;> rfl
    refine st_cond _ rfl (fun hc2 => ?_) (fun hc2 => ?_)
    · rw [e1] at hc2
      refine run ?_
      refine fin1 ?_
      rw [freeL_false hlt (by simpa using hc2)]
    · rw [e1] at hc2
      refine run ?_
      refine nextS (k + 1) ⟨hlt, fun j hj => ?_⟩
      rcases Nat.lt_succ_iff_lt_or_eq.1 hj with hj | rfl
      · exact hyes j hj
      · simpa using hc2
  · refine run ?_
    refine fin1 ?_
    have : k = l.length := by simp at hc; omega
    subst this
    rw [freeL_true hyes]
/-- What is asked: the tables, the way. -/
theorem gAsked_e (ws : List Nat) (hw : W64 ws) {w : World} {v : Value} (h : SlAt w v 1 (ws.map uV)) (hm : memOk ws.length = true) (root : Int) (page : Nat) (hp : page ≤ 4095) (down : Nat) (hd : down < 4) : Fn Tryz.prog 151 [.agg #[v], .int .i64 root, .int .i64 (page : Int), .int .i64 (down : Int)].toArray w [] (fun u hn => ∃ v2 h2 d, u = .tuple #[.agg #[v, .int .i64 root], .agg #[.int .i64 d.kind, .int .i64 d.frame, .bool d.r, .bool d.w, .bool d.x, .bool d.af, .bool d.ng, .int .i64 d.soft, .int .i64 d.note, v2], .int .i64 (bif (wayL ws root page down).ok then 0 else 2)] ∧ Own 3 1 v2 h2 ((wayL ws root page down).fs.map inV) ∧ HpLe h2 hn ∧ d = (wayL ws root page down).d) := by
  have hmi := memOk_iff hm
  obtain ⟨q, cap, rfl, hne, hle⟩ := h.opened
  refine enter Tryz.func151 ?_
  refine run ?_
  intro B C D
  refine run ?_
  refine callE (fun wc hG => mCheck_e ws.length cap (by omega) q wc) ?_
  rw [hm]
  refine runC ?_
  refine st_cond _ rfl (fun hc => ?_) (fun hc => ?_)
  · exfalso; simp at hc; omega
  refine run ?_
  refine callB (fun wc hG => gWalk_e ws hw (h.good hG) root page hp down hd (by omega)) ?_
  rintro u hn2 ⟨v2, h2, d, rfl, hO, hle2, hdd⟩
  obtain ⟨q2, cap2, e2⟩ := hO.opened
  rw [List.length_map] at e2
  subst e2
  refine ops_sub hle2 ?_
  refine ops_perm (_ ++ h2) List.perm_append_comm ?_
  simp only [List.cons_append, List.nil_append]
  refine run ?_
  refine drawC 5 3 [0, 1, 2] [3, 4] (⟨D, #[.int .i64 d.kind, .int .i64 d.frame, .bool d.r, .bool d.w, .bool d.x, .bool d.af, .bool d.ng, .int .i64 d.soft, .int .i64 d.note, .slice q2 (wayL ws root page down).fs.length cap2], 242⟩ :: ⟨C, #[.slice q ws.length cap, .int .i64 root], 239⟩ :: ⟨B, #[.slice q ws.length cap], 24⟩ :: h2) ?_
  refine runZ ?_
  refine cSame ?_
  refine cSame ?_
  refine dc_nil ?_
  refine opsC ?_
  refine run ?_
  refine finAA ⟨_, h2, d, rfl, hO, by (exact clcntL), hdd⟩
theorem gGet_e (ws : List Nat) (hw : W64 ws) {w : World} {v : Value} (h : SlAt w v 1 (ws.map uV)) (hm : memOk ws.length = true) (root : Int) (page : Nat) (hp : page ≤ 4095) : Fn Tryz.prog 70 [.agg #[v], .int .i64 root, .int .i64 (page : Int)].toArray w [] (fun u hn => u = .tuple #[dsV (getL ws root page).d, .int .i64 ((getL ws root page).level : Int), .int .i64 (getL ws root page).e]) := by
  have hmi := memOk_iff hm
  refine enter Tryz.func70 ?_
  obtain ⟨q, cap, rfl, hne, hle⟩ := h.opened
  refine run ?_
  intro B C
  refine run ?_
  refine callB (fun wc hG => gAsked_e ws hw (h.good hG) hm root page hp 3 (by decide)) ?_
  rintro u hn2 ⟨v2, h2, d, rfl, hO, hle2, hdd⟩
  obtain ⟨q2, cap2, e2⟩ := hO.opened
  rw [List.length_map] at e2
  subst e2
  refine ops_sub hle2 ?_
  refine ops_perm (_ ++ h2) List.perm_append_comm ?_
  simp only [List.cons_append, List.nil_append]
  refine run ?_
  intro E F
  refine run ?_
  have hok : (bif (wayL ws root page 3).ok then (0 : Int) else 2) = (getL ws root page).e := by cases hk : (wayL ws root page 3).ok <;> simp [getL, hk]
  rw [hok]
  refine st_cond _ rfl (fun hc => ?_) (fun hc => ?_)
  · have hg : getL ws root page = ⟨noDs, 0, 2⟩ := by
      cases hk : (wayL ws root page 3).ok with
      | false => simp [getL, hk]
      | true => simp [getL, hk] at hc
    rw [hg]
    refine run ?_
    exact finA3 (cs := #[.int .i64 0, .int .i64 0, .bool false, .bool false, .bool false, .bool false, .bool false, .int .i64 0, .int .i64 0]) rfl
  · have hk : (wayL ws root page 3).ok = true := by
      cases hk : (wayL ws root page 3).ok with
      | false => simp [getL, hk] at hc
      | true => rfl
    have hg : getL ws root page = ⟨(wayL ws root page 3).d, (wayL ws root page 3).lv, 0⟩ := by simp [getL, hk]
    rw [hg]
    have hfine := wayL_fine hk
    have hpos := hfine.pos
    refine run ?_
    rw [hdd]
    refine drawC 5 4 [0, 1, 2, 3] [4] (⟨F, #[.int .i64 (wayL ws root page 3).d.kind, .int .i64 (wayL ws root page 3).d.frame, .bool (wayL ws root page 3).d.r, .bool (wayL ws root page 3).d.w, .bool (wayL ws root page 3).d.x, .bool (wayL ws root page 3).d.af, .bool (wayL ws root page 3).d.ng, .int .i64 (wayL ws root page 3).d.soft, .int .i64 (wayL ws root page 3).d.note, .slice q2 (wayL ws root page 3).fs.length cap2], 242⟩ :: ⟨E, #[.slice q ws.length cap, .int .i64 root], 239⟩ :: ⟨B, #[.slice q ws.length cap], 24⟩ :: h2) ?_
    refine runZ ?_
    refine sCallA (fun wc hx hG => gLevel_e _ q2 (wayL ws root page 3).fs.length cap2 hpos (by have := hfine.le; omega) wc) ?_
    refine runZ ?_
    refine cStore (b := C) (tb := 124) (cs := #[.int .i64 0, .int .i64 0, .bool false, .bool false, .bool false, .bool false, .bool false, .int .i64 0, .int .i64 0]) (cs' := #[.int .i64 (wayL ws root page 3).d.kind, .int .i64 (wayL ws root page 3).d.frame, .bool (wayL ws root page 3).d.r, .bool (wayL ws root page 3).d.w, .bool (wayL ws root page 3).d.x, .bool (wayL ws root page 3).d.af, .bool (wayL ws root page 3).d.ng, .int .i64 (wayL ws root page 3).d.soft, .int .i64 (wayL ws root page 3).d.note]) (hp' := ⟨F, #[.int .i64 (wayL ws root page 3).d.kind, .int .i64 (wayL ws root page 3).d.frame, .bool (wayL ws root page 3).d.r, .bool (wayL ws root page 3).d.w, .bool (wayL ws root page 3).d.x, .bool (wayL ws root page 3).d.af, .bool (wayL ws root page 3).d.ng, .int .i64 (wayL ws root page 3).d.soft, .int .i64 (wayL ws root page 3).d.note, .slice q2 (wayL ws root page 3).fs.length cap2], 242⟩ :: ⟨E, #[.slice q ws.length cap, .int .i64 root], 239⟩ :: ⟨B, #[.slice q ws.length cap], 24⟩ :: h2) ?_ clcntP
    refine dc_nil ?_
    refine opsC ?_
    refine run ?_
    exact finA3 rfl
theorem gPutc_e (ws : List Nat) (hw : W64 ws) {w : World} {v : Value} (h : SlAt w v 1 (ws.map uV)) (hm : memOk ws.length = true) (root : Int) (page : Nat) (hp : page ≤ 4095) (level : Nat) (hl : level < 4) (d : DsD) (hd : d.may 2 level = true) : Fn Tryz.prog 329 [.agg #[v], .int .i64 root, .int .i64 (page : Int), .int .i64 (level : Int), dsV d].toArray w [] (fun u hn => PutR (putM ws root page level d) u hn) := by
  have hmi := memOk_iff hm
  refine enter Tryz.func329 ?_
  obtain ⟨q, cap, rfl, hne, hle⟩ := h.opened
  refine run ?_
  intro B C D
  refine run ?_
  refine callE (fun wc hG => dCheck_e 2 (.inr rfl) level hl d wc) ?_
  rw [hd]
  refine runC ?_
  refine callB (fun wc hG => gAsked_e ws hw (h.good hG) hm root page hp level hl) ?_
  rintro u hn2 ⟨v2, h2, dd, rfl, hO, hle2, hdd⟩
  obtain ⟨q2, cap2, e2⟩ := hO.opened
  rw [List.length_map] at e2
  subst e2
  refine ops_sub hle2 ?_
  refine ops_perm (_ ++ h2) List.perm_append_comm ?_
  simp only [List.cons_append, List.nil_append]
  refine run ?_
  intro E F
  refine run ?_
  refine st_cond _ rfl (fun hc => ?_) (fun hc => ?_)
  · have hk : (wayL ws root page level).ok = false := by
      cases hk : (wayL ws root page level).ok with
      | false => rfl
      | true => simp [hk] at hc
    have hg : putM ws root page level d = badM 2 := by simp only [putM, hk]; rfl
    rw [hg, hk]
    refine run ?_
    exact finA1 ⟨_, _, rfl, Own.nil _ _, trivial⟩
  · have hk : (wayL ws root page level).ok = true := by
      cases hk : (wayL ws root page level).ok with
      | false => simp [hk] at hc
      | true => rfl
    have hfine := wayL_fine hk
    refine run ?_
    have hpos := hfine.pos
    have hle4 := hfine.le
    refine callE (fun wc hG => gLevel_e dd q2 (wayL ws root page level).fs.length cap2 hpos (by omega) wc) ?_
    refine run ?_
    have e1 : decide ((((wayL ws root page level).fs.length - 1 : Nat) : Int) = (level : Int)) = decide ((wayL ws root page level).lv = level) := by rw [Bool.eq_iff_iff, decide_eq_true_eq, decide_eq_true_eq, WkD.lv]; omega
    rw [e1]
    refine st_cond _ rfl (fun hc2 => ?_) (fun hc2 => ?_)
    · have hk2 : decide ((wayL ws root page level).lv = level) = false := by simpa using hc2
      have hg : putM ws root page level d = badM 3 := by simp only [putM, hk, hk2]; rfl
      rw [hg]
      refine run ?_
      exact finA1 ⟨_, _, rfl, Own.nil _ _, trivial⟩
    have hk2 : decide ((wayL ws root page level).lv = level) = true := by simpa using hc2
    have hg : putM ws root page level d = ⟨putL ws ((wayL ws root page level).place page) level d, [], 0⟩ := by simp only [putM, hk, hk2]; rfl
    rw [hg]
    refine run ?_
    refine callB (fun wc hG => gCopied_e ws _ root (h.good hG) (by omega)) ?_
    rintro u hn3 ⟨v3, h3, rfl, hO3, hle3⟩
    obtain ⟨g3, cap3, cur3, rfl, rfl, hr3⟩ := hO3.row (n := ws.length) (by rw [List.length_map]) (by omega)
    refine ops_sub hle3 ?_
    refine run ?_
    intro X
    refine run ?_
    refine drawN 6 ?_
    refine runD ?_
    refine callD (fun wc hG => gPlaceW_e (wayL ws root page level) dd (hO.lie (fun b hb => hG.here b (by simp [hb])) (by rw [List.length_map]; omega)) hle4 hpos (n := ws.length) (by omega) hfine.has page hp) ?_
    refine runD ?_
    have hpl := hfine.place_lt
    obtain ⟨hsz3, _, _, hset3⟩ := hO3.setG hpl
    refine callM [⟨g3, cur3, 47⟩] (⟨X, #[.slice (some ⟨g3, 0, none⟩) ws.length cap3, .int .i64 root], 239⟩ :: ⟨D, #[.slice none 0 0], 24⟩ :: ⟨B, #[.slice q ws.length cap], 24⟩ :: ⟨C, #[.int .i64 d.kind, .int .i64 d.frame, .bool d.r, .bool d.w, .bool d.x, .bool d.af, .bool d.ng, .int .i64 d.soft, .int .i64 d.note], 124⟩ :: ⟨F, #[.int .i64 dd.kind, .int .i64 dd.frame, .bool dd.r, .bool dd.w, .bool dd.x, .bool dd.af, .bool dd.ng, .int .i64 dd.soft, .int .i64 dd.note, .slice q2 (wayL ws root page level).fs.length cap2], 242⟩ :: ⟨E, #[.slice q ws.length cap, .int .i64 root], 239⟩ :: h2) (fun wc hG => gPut_e ws hO3 root _ level hl hpl (by omega) d hd hG.hereN) ?_ clcntP
    rintro u4 hn4 ⟨rfl, hle4'⟩
    refine ops_sub hle4' ?_
    simp only [List.cons_append, List.nil_append]
    refine run ?_
    exact finA1 ⟨_, [⟨g3, _, 47⟩], rfl, hset3 _, by (exact clcntL)⟩
end Go.Proofs.YtiaelhhmlbfkmaaGreat
