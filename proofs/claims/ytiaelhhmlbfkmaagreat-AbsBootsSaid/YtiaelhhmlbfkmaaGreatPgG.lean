/- Layer 16: the program's Map, Unmap, Split. -/
import Derived.Test.YtiaelhhmlbfkmaaGreatPgF
namespace Go.Proofs.YtiaelhhmlbfkmaaGreat
open Go.RowKit
set_option linter.unusedVariables false
set_option linter.unusedSimpArgs false
set_option maxRecDepth 20000
section
variable {P : Program} {T : Tab} {n : Nat} {w0 : World} {mu : List Nat} {l : Fm} {hp : Hp} {dd : Option Tmp} {ty : TypeId} {pos : String} {af : Array Edge} {gg : Option (Nat × Bool)} {Q : Exit → Fm → Hp → Prop} {all : Array Oper} {rest : List Oper}
/-- A part of one's own block of numbers cleared. -/
theorem z_clearR (ok : TabOk P T) {t e sz b o m c : Nat} {cs : Array Value} {tb : TypeId} {x : Operand} {z x0 : Value} {hp' : Hp} (hx : ev l x = some (.slice (some ⟨b, o, none⟩) m c)) (ht : lk T.sl t = some (e, sz)) (hz : lk T.zs e = some z) (hzc : z.cells = #[x0]) (hsz1 : sz = 1) (hz1 : x0.oneCell' = true) (hm : 0 < m)
    (hperm : (⟨b, cs, tb⟩ :: hp').Perm hp) (hfit : o + m * sz ≤ cs.size)
    (h : Ops P n w0 mu all rest l (⟨b, putAt cs o (List.replicate m x0), tb⟩ :: hp') Q) : Ops P n w0 mu all (⟨none, .call { callee := .builtin .clear, args := #[x], argTypes := #[t] }, ty, pos, af, none⟩ :: rest) l hp Q := by
  intro ac w hk hG
  obtain ⟨hu, hsz⟩ := ok.gsl ht
  have hG' := hG.perm hperm
  have hb := hG'.here _ (List.mem_cons_self ..)
  subst hsz1
  have hrep : (Builtin.zeroCells z.cells m).toList = List.replicate m x0 := by
    rw [List.eq_replicate_iff]
    refine ⟨by rw [Array.length_toList, size_zeroCells, hzc]; simp, fun u hu => ?_⟩
    rw [hzc] at hu
    simp only [Builtin.zeroCells, Array.mem_toList_iff, Array.mem_map, Array.mem_range] at hu
    obtain ⟨i, hi, rfl⟩ := hu
    simp [Nat.mod_one]
  have hst := run_storeCells_cells (P := P) b o (List.replicate m x0) 0 w
    (fun j hj => by rw [List.length_replicate] at hj; rw [cell_of_block hb]; simp [show o + j < cs.size by omega])
    (fun j _ => free_of_block hb) (fun u hu => by rw [(List.mem_replicate.1 hu).2]; exact hz1)
  simp only [Nat.add_zero] at hst
  refine wpList_plain rfl fun K hK => ?_
  unfold Oper.wp execOp
  have hr : (Builtin.clear_ #[t] ty #[.slice (some ⟨b, o, none⟩) m c]).run P w = .ok (.tuple #[]) (w.setCells b o (List.replicate m x0)) := by
    obtain ⟨m', rfl⟩ : ∃ m', m = m' + 1 := ⟨m - 1, by omega⟩
    simp [Builtin.clear_, run_underlying hu, run_zero (ok.gzs hz) w, hrep, hst]
  simp only [resolve, invoke, builtin, Sem.run_bind, Sem.run_pure, Result.andThen_ok, List.map_toArray, List.map_cons, List.map_nil, hk.ev hx, hr]
  exact hK _ _ (h _ _ hk (Good.sets (w := w) _ cs o w hG'))
end
theorem putAt_app : ∀ (xs bs : List Value) (cs : Array Value) (o : Nat), putAt cs o (xs ++ bs) = putAt (putAt cs o xs) (o + xs.length) bs := by
  intro xs
  induction xs with
  | nil => intro bs cs o; rfl
  | cons a r ih => intro bs cs o; rw [List.cons_append, putAt, putAt, ih, List.length_cons]; congr 1; omega
/-- Noughts in a row. -/
theorem Own.zeros {e g n cap : Nat} {cur : Array Value} {ws : List Nat} (hA : Own e 1 (.slice (some ⟨g, 0, none⟩) n cap) [⟨g, cur, e⟩] (ws.map uV)) {o : Nat} : ∀ k, o + k ≤ ws.length → Own e 1 (.slice (some ⟨g, 0, none⟩) n cap) [⟨g, putAt cur o (List.replicate k (.int .u64 0)), e⟩] ((zeroK ws o k).map uV) := by
  intro k
  induction k with
  | zero => intro _; exact hA
  | succ k ih =>
    intro hk
    obtain ⟨_, _, _, hset⟩ := (ih (by omega)).setG (k := o + k) (by rw [zeroK_len]; omega)
    rw [List.replicate_succ', putAt_app, List.length_replicate, zeroK]
    exact hset 0
attribute [local irreducible] Hy St Ops DH DHF
def mapG (ws : List Nat) (root : Int) (l : List Int) (page : Int) (d : DsD) : TbR := bif d.may 2 3 && decide (d.kind = 2) && askOk ws.length page then mapL ws root l page.toNat d else badM 1
def unmapG (ws : List Nat) (root : Int) (page note : Int) : TbR × DsD := bif PtD.btw note 0 15 && askOk ws.length page then unmapL ws root page.toNat note else (badM 1, noDs)
def splitG (ws : List Nat) (root : Int) (l : List Int) (page : Int) : TbR := bif askOk ws.length page then splitL ws root l page.toNat else badM 1
theorem gUnmap_e (ws : List Nat) (hw : W64 ws) {w : World} {v : Value} (h : SlAt w v 1 (ws.map uV)) (hn : ws.length < 1000000) (root page note : Int) : Fn Tryz.prog 213 [.agg #[v], .int .i64 root, .int .i64 page, .int .i64 note].toArray w [] (fun u hn => UnR (unmapG ws root page note) u hn) := by
  refine enter Tryz.func213 ?_
  obtain ⟨q, cap, rfl, hne, hle⟩ := h.opened
  refine run ?_
  intro B C D
  refine runG ?_
  refine st_cond _ rfl (fun hc => ?_) (fun hc => ?_)
  · have hg : unmapG ws root page note = (badM 1, noDs) := by
      have : PtD.btw note 0 15 = false := by simp only [PtD.btw]; simp at hc ⊢; omega
      simp only [unmapG, this]; rfl
    rw [hg]
    refine run ?_
    refine drawC 4 2 [0, 1] [2, 3] [⟨D, #[.int .i64 0, .int .i64 0, .bool false, .bool false, .bool false, .bool false, .bool false, .int .i64 0, .int .i64 0], 124⟩, ⟨C, #[.slice none 0 0], 24⟩, ⟨B, #[.slice q ws.length cap], 24⟩] ?_
    refine runZ ?_
    refine cSame ?_
    refine cSame ?_
    refine dc_nil ?_
    refine opsC ?_
    refine run ?_
    exact finAA (cs2 := #[.int .i64 0, .int .i64 0, .bool false, .bool false, .bool false, .bool false, .bool false, .int .i64 0, .int .i64 0]) ⟨_, _, rfl, Own.nil _ _, trivial⟩
  have hb : PtD.btw note 0 15 = true := by simp only [PtD.btw]; simp at hc ⊢; omega
  have hnt2 : 0 ≤ note ∧ note ≤ 15 := by simp at hc; omega
  cases hk : askOk ws.length page with
  | false =>
    have hg : unmapG ws root page note = (badM 1, noDs) := by simp only [unmapG, hk, hb]; rfl
    rw [hg]
    refine run ?_
    refine callB (fun wc hG => gAskedF_e (by omega) root page 3 (by decide) hk wc) ?_
    rintro u hn2 rfl
    refine ops_le [⟨D, #[.int .i64 0, .int .i64 0, .bool false, .bool false, .bool false, .bool false, .bool false, .int .i64 0, .int .i64 0], 124⟩, ⟨C, #[.slice none 0 0], 24⟩, ⟨B, #[.slice q ws.length cap], 24⟩] clcntL ?_
    refine run ?_
    intro E F
    refine runC ?_
    refine drawC 5 3 [0, 1, 2] [3, 4] [⟨D, #[.int .i64 0, .int .i64 0, .bool false, .bool false, .bool false, .bool false, .bool false, .int .i64 0, .int .i64 0], 124⟩, ⟨C, #[.slice none 0 0], 24⟩] ?_
    refine runZ ?_
    refine cSame ?_
    refine cSame ?_
    refine dc_nil ?_
    refine opsC ?_
    refine run ?_
    exact finAA (cs2 := #[.int .i64 0, .int .i64 0, .bool false, .bool false, .bool false, .bool false, .bool false, .int .i64 0, .int .i64 0]) ⟨_, _, rfl, Own.nil _ _, trivial⟩
  | true =>
    obtain ⟨hm, hmi, hz, hpg⟩ := askOk_iff hk
    have hg : unmapG ws root page note = unmapL ws root page.toNat note := by simp only [unmapG, hk, hb]; rfl
    rw [hg]
    rw [← hz]
    simp only [Int.toNat_natCast]
    generalize page.toNat = pg at hpg
    refine run ?_
    refine callB (fun wc hG => gAsked_e ws hw (h.good hG) hm root pg hpg 3 (by decide)) ?_
    rintro u hn2 ⟨v2, h2, d, rfl, hO, hle2, hdd⟩
    have hl4 := wayL_len ws root pg 3
    simp only [unmapL]
    cases hok : (wayL ws root pg 3).ok with
    | false =>
      obtain ⟨q2, cap2, e2⟩ := hO.opened
      subst e2
      refine ops_le [⟨D, #[.int .i64 0, .int .i64 0, .bool false, .bool false, .bool false, .bool false, .bool false, .int .i64 0, .int .i64 0], 124⟩, ⟨C, #[.slice none 0 0], 24⟩, ⟨B, #[.slice q ws.length cap], 24⟩] clcntL ?_
      refine run ?_
      intro E F
      refine runC ?_
      refine drawC 5 3 [0, 1, 2] [3, 4] [⟨D, #[.int .i64 0, .int .i64 0, .bool false, .bool false, .bool false, .bool false, .bool false, .int .i64 0, .int .i64 0], 124⟩, ⟨C, #[.slice none 0 0], 24⟩] ?_
      refine runZ ?_
      refine cSame ?_
      refine cSame ?_
      refine dc_nil ?_
      refine opsC ?_
      refine run ?_
      exact finAA (cs2 := #[.int .i64 0, .int .i64 0, .bool false, .bool false, .bool false, .bool false, .bool false, .int .i64 0, .int .i64 0]) ⟨_, _, rfl, Own.nil _ _, trivial⟩
    | true =>
      have hfine := wayL_fine hok
      have hnt := way_tab hok
      generalize wayL ws root pg 3 = W at hO hok hfine hnt hl4 hdd ⊢
      have hle4 := hfine.le
      have hpos := hfine.pos
      obtain ⟨q2, cap2, e2⟩ := hO.opened
      rw [List.length_map] at e2
      subst e2
      simp only [cond_true, Bool.true_and, Bool.not_true, cond_false]
      refine ops_le (⟨D, #[.int .i64 0, .int .i64 0, .bool false, .bool false, .bool false, .bool false, .bool false, .int .i64 0, .int .i64 0], 124⟩ :: ⟨C, #[.slice none 0 0], 24⟩ :: ⟨B, #[.slice q ws.length cap], 24⟩ :: h2) (cnt1 hle2) ?_
      refine run ?_
      intro E F
      refine runC ?_
      refine callEG (fun hg wc hG => gLevel_e d q2 W.fs.length cap2 hpos (by omega) wc) ?_
      refine runC ?_
      have e1 : decide (((W.fs.length - 1 : Nat) : Int) = 3) = decide (W.lv = 3) := by rw [Bool.eq_iff_iff, decide_eq_true_eq, decide_eq_true_eq, WkD.lv]; omega
      rw [hdd, e1]
      refine st_cond _ rfl (fun hc2 => ?_) (fun hc2 => ?_)
      · rw [hc2, cond_true]
        refine run ?_
        refine drawC 4 2 [0, 1] [2, 3] [⟨D, #[.int .i64 0, .int .i64 0, .bool false, .bool false, .bool false, .bool false, .bool false, .int .i64 0, .int .i64 0], 124⟩, ⟨C, #[.slice none 0 0], 24⟩] ?_
        refine runZ ?_
        refine cSame ?_
        refine cSame ?_
        refine dc_nil ?_
        refine opsC ?_
        refine run ?_
        exact finAA (cs2 := #[.int .i64 0, .int .i64 0, .bool false, .bool false, .bool false, .bool false, .bool false, .int .i64 0, .int .i64 0]) ⟨_, _, rfl, Own.nil _ _, trivial⟩
      rw [hc2, cond_false]
      have hc3 := hc2
      simp only [Bool.or_eq_false_iff, Bool.not_eq_false', decide_eq_true_eq] at hc3
      refine run ?_
      refine callB (fun wc hG => gCopied_e ws _ root (h.good hG) (by omega)) ?_
      rintro u hn3 ⟨v3, h3, rfl, hO3, hle3⟩
      obtain ⟨g3, cap3, cur3, rfl, rfl, hr3⟩ := hO3.row (n := ws.length) (by rw [List.length_map]) (by omega)
      refine ops_sub hle3 ?_
      simp only [List.cons_append, List.nil_append]
      refine run ?_
      intro X
      refine run ?_
      refine drawN 6 ?_
      refine runD ?_
      refine callD (fun wc hG => gPlaceW_e W W.d (hO.lie (fun b hb => hG.here b (by simp [hb])) (by rw [List.length_map]; omega)) hle4 hpos (n := ws.length) (by omega) hfine.has pg hpg) ?_
      refine runD ?_
      have hpl := hfine.place_lt
      obtain ⟨hsz3, _, _, hset3⟩ := hO3.setG hpl
      refine callM [⟨g3, cur3, 47⟩] (⟨X, #[.slice (some ⟨g3, 0, none⟩) ws.length cap3, .int .i64 root], 239⟩ :: ⟨D, #[.int .i64 0, .int .i64 0, .bool false, .bool false, .bool false, .bool false, .bool false, .int .i64 0, .int .i64 0], 124⟩ :: ⟨C, #[.slice none 0 0], 24⟩ :: ⟨B, #[.slice q ws.length cap], 24⟩ :: ⟨F, #[.int .i64 W.d.kind, .int .i64 W.d.frame, .bool W.d.r, .bool W.d.w, .bool W.d.x, .bool W.d.af, .bool W.d.ng, .int .i64 W.d.soft, .int .i64 W.d.note, .slice q2 W.fs.length cap2], 242⟩ :: ⟨E, #[.slice q ws.length cap, .int .i64 root], 239⟩ :: h2) (fun wc hG => gPut_e ws hO3 root _ 3 (by decide) hpl (by omega) (noteD note) (noteD_may hnt2.1 hnt2.2) hG.hereN) ?_ clcntP
      rintro u4 hn4 ⟨rfl, hle4'⟩
      refine ops_sub hle4' ?_
      simp only [List.cons_append, List.nil_append]
      refine run ?_
      refine drawC 6 4 [0, 1, 2, 3] [4, 5] [⟨F, #[.int .i64 W.d.kind, .int .i64 W.d.frame, .bool W.d.r, .bool W.d.w, .bool W.d.x, .bool W.d.af, .bool W.d.ng, .int .i64 W.d.soft, .int .i64 W.d.note, .slice q2 W.fs.length cap2], 242⟩] ?_
      refine runZ ?_
      refine cPut ?_
      refine cPut ?_
      refine dc_nil ?_
      refine opsC ?_
      refine run ?_
      exact finAA ⟨_, [⟨g3, _, 47⟩], rfl, hset3 _, by (exact clcntL)⟩
set_option maxHeartbeats 400000 in
theorem gMap_e (ws : List Nat) (hw : W64 ws) {w : World} {v vl : Value} (h : SlAt w v 1 (ws.map uV)) (hn : ws.length < 1000000) (l : List Int) (hv : SlAt w vl 1 (l.map inV)) (hcap : ∃ p c, vl = .slice p l.length c ∧ l.length ≤ c ∧ (p = none ∨ ∃ b off, p = some ⟨b, off, none⟩)) (hln : l.length < 1000000) (root page : Int) (d : DsD) : Fn Tryz.prog 220 [.agg #[v], .int .i64 root, vl, .int .i64 page, dsV d].toArray w [] (fun u hn => MapR (mapG ws root l page d) u hn) := by
  refine enter Tryz.func220 ?_
  obtain ⟨q, cap, rfl, hne, hle⟩ := h.opened
  obtain ⟨ql, capl, rfl, hcap, hql⟩ := hcap
  refine run ?_
  intro B C D
  refine runG ?_
  refine callE (fun wc hG => dCheck_e 2 (.inr rfl) 3 (by decide) d wc) ?_
  refine runG ?_
  refine st_cond _ rfl (fun hc => ?_) (fun hc => ?_)
  · have hg : mapG ws root l page d = badM 1 := by
      have : (d.may 2 3 && decide (d.kind = 2)) = false := by
        cases hm : d.may 2 3 with
        | false => rfl
        | true => rw [hm] at hc; simpa using hc
      simp only [mapG, this]; rfl
    rw [hg]
    refine run ?_
    exact finAT ⟨_, _, _, _, rfl, Own.nil _ _, Own.nil _ _, trivial⟩
  have hmk : (d.may 2 3 && decide (d.kind = 2)) = true := by
    cases hm : d.may 2 3 with
    | false => rw [hm] at hc; simp at hc
    | true => rw [hm] at hc; simpa using hc
  have hmk2 := hmk
  rw [Bool.and_eq_true, decide_eq_true_eq] at hmk2
  obtain ⟨hdm, hdk⟩ := hmk2
  cases hk : askOk ws.length page with
  | false =>
    have hg : mapG ws root l page d = badM 1 := by simp only [mapG, hk, hmk]; rfl
    rw [hg]
    refine run ?_
    refine callB (fun wc hG => gAskedF_e (by omega) root page 3 (by decide) hk wc) ?_
    rintro u hn2 rfl
    refine ops_le [⟨D, #[.slice none 0 0], 24⟩, ⟨C, #[.int .i64 d.kind, .int .i64 d.frame, .bool d.r, .bool d.w, .bool d.x, .bool d.af, .bool d.ng, .int .i64 d.soft, .int .i64 d.note], 124⟩, ⟨B, #[.slice q ws.length cap], 24⟩] clcntL ?_
    refine run ?_
    intro E F
    refine runC ?_
    exact finAT ⟨_, _, _, _, rfl, Own.nil _ _, Own.nil _ _, trivial⟩
  | true =>
    obtain ⟨hm, hmi, hz, hpg⟩ := askOk_iff hk
    have hg : mapG ws root l page d = mapL ws root l page.toNat d := by simp only [mapG, hk, hmk]; rfl
    rw [hg]
    rw [← hz]
    simp only [Int.toNat_natCast]
    generalize page.toNat = pg at hpg
    refine run ?_
    refine callB (fun wc hG => gAsked_e ws hw (h.good hG) hm root pg hpg 3 (by decide)) ?_
    rintro u hn2 ⟨v2, h2, d2, rfl, hO, hle2, hdd⟩
    have hl4 := wayL_len ws root pg 3
    simp only [mapL]
    cases hok : (wayL ws root pg 3).ok with
    | false =>
      obtain ⟨q2, cap2, e2⟩ := hO.opened
      subst e2
      simp only [Bool.false_and, Bool.not_false, cond_true]
      refine ops_le [⟨D, #[.slice none 0 0], 24⟩, ⟨C, #[.int .i64 d.kind, .int .i64 d.frame, .bool d.r, .bool d.w, .bool d.x, .bool d.af, .bool d.ng, .int .i64 d.soft, .int .i64 d.note], 124⟩, ⟨B, #[.slice q ws.length cap], 24⟩] clcntL ?_
      refine run ?_
      intro E F
      refine runC ?_
      exact finAT ⟨_, _, _, _, rfl, Own.nil _ _, Own.nil _ _, trivial⟩
    | true =>
      have hfine := wayL_fine hok
      have hnt := way_tab hok
      have hroot := wayL_root hok
      generalize wayL ws root pg 3 = W at hO hok hfine hnt hl4 hdd hroot ⊢
      have hle4 := hfine.le
      have hpos := hfine.pos
      obtain ⟨q2, cap2, e2⟩ := hO.opened
      rw [List.length_map] at e2
      subst e2 hdd
      simp only [cond_true, Bool.true_and, Bool.not_true, cond_false]
      refine ops_le (⟨D, #[.slice none 0 0], 24⟩ :: ⟨C, #[.int .i64 d.kind, .int .i64 d.frame, .bool d.r, .bool d.w, .bool d.x, .bool d.af, .bool d.ng, .int .i64 d.soft, .int .i64 d.note], 124⟩ :: ⟨B, #[.slice q ws.length cap], 24⟩ :: h2) (cnt1 hle2) ?_
      refine run ?_
      intro E F
      refine runC ?_
      refine callE (fun wc hG => gLevel_e W.d q2 W.fs.length cap2 hpos (by omega) wc) ?_
      have hlk : (3 : Int) - ((W.fs.length - 1 : Nat) : Int) = ((4 - W.fs.length : Nat) : Int) := by omega
      refine run ?_
      rw [hlk]
      refine runC ?_
      refine callE (fun wc hG => gFree_e ws.length cap q root (by omega) W.d W.fs l (hv.good hG) ⟨_, _, rfl, hcap⟩ (hO.lie (fun b hb => hG.here b (by simp [hb])) (by rw [List.length_map]; omega)) hroot) ?_
      refine run ?_
      refine st_cond _ rfl (fun hc => ?_) (fun hc => ?_)
      · have hfr : freeL ws.length W.fs l = false := by simpa using hc
        rw [hfr, Bool.not_false, cond_true]
        refine run ?_
        exact finAT ⟨_, _, _, _, rfl, Own.nil _ _, Own.nil _ _, trivial⟩
      have hfr : freeL ws.length W.fs l = true := by simpa using hc
      rw [hfr, Bool.not_true, cond_false]
      clear hc
      refine runG ?_
      have e1 : decide (0 < ((4 - W.fs.length : Nat) : Int)) = decide (W.fs.length < 4) := by rw [Bool.eq_iff_iff, decide_eq_true_eq, decide_eq_true_eq]; omega
      rw [e1]
      refine st_cond _ rfl (fun hc => ?_) (fun hc => ?_)
      · rw [hc, cond_true]
        refine run ?_
        exact finAT ⟨_, _, _, _, rfl, Own.nil _ _, Own.nil _ _, trivial⟩
      rw [hc, cond_false]
      clear hc
      have e3 : decide ((l.length : Int) < ((4 - W.fs.length : Nat) : Int)) = decide (l.length + W.fs.length < 4) := by rw [Bool.eq_iff_iff, decide_eq_true_eq, decide_eq_true_eq]; omega
      refine run ?_
      refine st_cond _ rfl (fun hc => ?_) (fun hc => ?_)
      · rw [e3] at hc
        rw [hc, cond_true]
        refine run ?_
        exact finAT ⟨_, _, _, _, rfl, Own.nil _ _, Own.nil _ _, trivial⟩
      rw [e3] at hc
      rw [hc, cond_false]
      replace hc : 4 ≤ l.length + W.fs.length := by simpa using hc
      refine run ?_
      refine drawEC 7 6 [0, 2, 3, 4] [1, 5] [6] (⟨F, #[.int .i64 W.d.kind, .int .i64 W.d.frame, .bool W.d.r, .bool W.d.w, .bool W.d.x, .bool W.d.af, .bool W.d.ng, .int .i64 W.d.soft, .int .i64 W.d.note, .slice q2 W.fs.length cap2], 242⟩ :: ⟨E, #[.slice q ws.length cap, .int .i64 root], 239⟩ :: ⟨D, #[.slice none 0 0], 24⟩ :: ⟨C, #[.int .i64 d.kind, .int .i64 d.frame, .bool d.r, .bool d.w, .bool d.x, .bool d.af, .bool d.ng, .int .i64 d.soft, .int .i64 d.note], 124⟩ :: ⟨B, #[.slice q ws.length cap], 24⟩ :: h2) ?_
      refine runZ ?_
      refine sCallA (fun wc hx hG => gPlaceW_e W W.d (hO.lie (fun b hb => hG.here b (by simp [hb])) (by rw [List.length_map]; omega)) hle4 hpos (n := ws.length) (by omega) hfine.has pg hpg) ?_
      refine runZ ?_
      refine eCall (fun wc hG => gCopied_e ws _ root (h.good hG) (by omega)) (gCopied_e ws _ root h (by omega)).some ?_
      refine eAlloc ?_
      refine eNil ?_
      rintro _ _ ⟨X, rfl, rfl⟩ u hn3 ⟨v3, h3, rfl, hO3, hle3⟩
      obtain ⟨g3, cap3, cur3, rfl, rfl, hr3⟩ := hO3.row (n := ws.length) (by rw [List.length_map]) (by omega)
      simp only [DN, List.cons_append, List.nil_append, List.append_nil]
      refine cPut ?_
      refine dc_nil ?_
      refine opsC ?_
      refine ops_le (⟨X, #[.slice (some ⟨g3, 0, none⟩) ws.length cap3, .int .i64 root], 239⟩ :: ⟨g3, cur3, 47⟩ :: ⟨F, #[.int .i64 W.d.kind, .int .i64 W.d.frame, .bool W.d.r, .bool W.d.w, .bool W.d.x, .bool W.d.af, .bool W.d.ng, .int .i64 W.d.soft, .int .i64 W.d.note, .slice q2 W.fs.length cap2], 242⟩ :: ⟨E, #[.slice q ws.length cap, .int .i64 root], 239⟩ :: ⟨D, #[.slice none 0 0], 24⟩ :: ⟨C, #[.int .i64 d.kind, .int .i64 d.frame, .bool d.r, .bool d.w, .bool d.x, .bool d.af, .bool d.ng, .int .i64 d.soft, .int .i64 d.note], 124⟩ :: ⟨B, #[.slice q ws.length cap], 24⟩ :: h2) (cnt1 hle3) ?_
      refine run ?_
      generalize hlkk : 4 - W.fs.length = lk at *
      have hlkl : lk ≤ l.length := by omega
      refine op1 (by rfl) (x_sliceH tb_ok rfl rfl (by rfl) (by omega) (by omega) (m' := lk) (by simp) hql) ?_
      refine run ?_
      refine loopS (σ := Nat × Array Value × Nat × List Nat) (fun s => [(86, .int .i64 (s.1 : Int)), (17, .int .i64 (s.2.2.1 : Int))]) (fun s => ⟨X, #[.slice (some ⟨g3, 0, none⟩) ws.length cap3, .int .i64 root], 239⟩ :: ⟨g3, s.2.1, 47⟩ :: ⟨F, #[.int .i64 W.d.kind, .int .i64 W.d.frame, .bool W.d.r, .bool W.d.w, .bool W.d.x, .bool W.d.af, .bool W.d.ng, .int .i64 W.d.soft, .int .i64 W.d.note, .slice q2 W.fs.length cap2], 242⟩ :: ⟨E, #[.slice q ws.length cap, .int .i64 root], 239⟩ :: ⟨D, #[.slice none 0 0], 24⟩ :: ⟨C, #[.int .i64 d.kind, .int .i64 d.frame, .bool d.r, .bool d.w, .bool d.x, .bool d.af, .bool d.ng, .int .i64 d.soft, .int .i64 d.note], 124⟩ :: ⟨B, #[.slice q ws.length cap], 24⟩ :: h2) (fun s => s.1 ≤ lk ∧ s.2.2.1 < ws.length ∧ s.2.2.2.length = ws.length ∧ linkL pg ((l.take lk).drop s.1) s.2.2.1 (W.lv + s.1) s.2.2.2 = linkL pg (l.take lk) (W.place pg) W.lv ws ∧ Own 47 1 (.slice (some ⟨g3, 0, none⟩) ws.length cap3) [⟨g3, s.2.1, 47⟩] (s.2.2.2.map uV)) (fun s => lk - s.1) (0, cur3, W.place pg, ws) ⟨Nat.zero_le _, hfine.place_lt, rfl, rfl, hO3⟩ ?_
      rintro ⟨i, cu, pl, us⟩ m hm2 ⟨hi, hpl, hul, hlink, hU⟩
      dsimp only at hm2 hi hpl hul hlink hU ⊢
      refine run ?_
      refine st_cond _ rfl (fun hc3 => ?_) (fun hc3 => ?_)
      · have hilt : i < lk := by simp at hc3; omega
        obtain ⟨q5, cap5, e5, hne5, _⟩ := hv.opened
        injection e5 with e5
        subst e5
        obtain ⟨b5, o5, rfl⟩ := hne5 (by intro e; subst e; simp at hlkl; omega)
        have hr := rangeAt_cell0 (hv.row (k := i) (by omega))
        simp only [Nat.mul_one] at hr
        have hfh : hasF ws.length (l.getD i default) = true := freeL_has hfr (by omega)
        generalize hf : l.getD i default = f at hr hfh
        have hfi := hasF_iff hfh
        refine run ?_
        have hc3c := hr3.le
        refine op1 (by rfl) (x_sliceLH tb_ok rfl rfl rfl (by rfl) (by omega) (by omega) (by omega) (by omega) (o' := f.toNat * 8) (by omega) (m' := 8) (by omega) (c' := cap3 - f.toNat * 8) (by omega)) ?_
        have hUz : Own 47 1 (.slice (some ⟨g3, 0, none⟩) ws.length cap3) [⟨g3, putAt cu (f.toNat * 8) (List.replicate 8 (.int .u64 0)), 47⟩] ((zeroF us f).map uV) := hU.zeros 8 (by omega)
        obtain ⟨hszc, _, _, _⟩ := hU.setG (k := ws.length - 1) (by omega)
        refine z_clearR tb_ok (hp' := ⟨X, #[.slice (some ⟨g3, 0, none⟩) ws.length cap3, .int .i64 root], 239⟩ :: ⟨F, #[.int .i64 W.d.kind, .int .i64 W.d.frame, .bool W.d.r, .bool W.d.w, .bool W.d.x, .bool W.d.af, .bool W.d.ng, .int .i64 W.d.soft, .int .i64 W.d.note, .slice q2 W.fs.length cap2], 242⟩ :: ⟨E, #[.slice q ws.length cap, .int .i64 root], 239⟩ :: ⟨D, #[.slice none 0 0], 24⟩ :: ⟨C, #[.int .i64 d.kind, .int .i64 d.frame, .bool d.r, .bool d.w, .bool d.x, .bool d.af, .bool d.ng, .int .i64 d.soft, .int .i64 d.note], 124⟩ :: ⟨B, #[.slice q ws.length cap], 24⟩ :: h2) rfl rfl rfl rfl rfl rfl (by decide) p1 (by omega) ?_
        generalize hcz : putAt cu (f.toNat * 8) (List.replicate 8 (.int .u64 0)) = cz at hUz ⊢
        clear hcz
        refine run ?_
        refine callE (fun wc hG => gLevel_e W.d q2 W.fs.length cap2 hpos (by omega) wc) ?_
        refine run ?_
        rw [show ((W.fs.length - 1 : Nat) : Int) + (i : Int) = ((W.lv + i : Nat) : Int) by unfold WkD.lv; omega]
        have hlv : W.lv = W.fs.length - 1 := rfl
        have hplz : pl < (zeroF us f).length := by rw [zeroF_len]; omega
        obtain ⟨_, _, _, hset⟩ := hUz.setG hplz
        refine callM [⟨g3, cz, 47⟩] (⟨X, #[.slice (some ⟨g3, 0, none⟩) ws.length cap3, .int .i64 root], 239⟩ :: ⟨F, #[.int .i64 W.d.kind, .int .i64 W.d.frame, .bool W.d.r, .bool W.d.w, .bool W.d.x, .bool W.d.af, .bool W.d.ng, .int .i64 W.d.soft, .int .i64 W.d.note, .slice q2 W.fs.length cap2], 242⟩ :: ⟨E, #[.slice q ws.length cap, .int .i64 root], 239⟩ :: ⟨D, #[.slice none 0 0], 24⟩ :: ⟨C, #[.int .i64 d.kind, .int .i64 d.frame, .bool d.r, .bool d.w, .bool d.x, .bool d.af, .bool d.ng, .int .i64 d.soft, .int .i64 d.note], 124⟩ :: ⟨B, #[.slice q ws.length cap], 24⟩ :: h2) (fun wc hG => gPut_e _ hUz root _ (W.lv + i) (by omega) hplz (by rw [zeroF_len]; omega) (tabD f) (tabD_may (by omega) (by omega) (by omega)) hG.hereN) ?_ clcntP
        rintro u4 hn4 ⟨rfl, hle4'⟩
        refine ops_sub hle4' ?_
        simp only [List.cons_append, List.nil_append]
        refine run ?_
        refine callE (fun wc hG => gAtN_e f hfh (by omega) (W.lv + i + 1) (by omega) pg hpg wc) ?_
        refine run ?_
        have hcons : (l.take lk).drop i = f :: (l.take lk).drop (i + 1) := by
          have h1 : i < (l.take lk).length := by rw [List.length_take]; omega
          rw [List.drop_eq_getElem_cons h1, List.getElem_take, ← hf, List.getD_eq_getElem?_getD, List.getElem?_eq_getElem (by omega)]; rfl
        rw [hcons, linkL] at hlink
        have hst := hset ((tabD f).word 2 (W.lv + i))
        refine nextS (i + 1, cz.setIfInBounds pl (.int .u64 (((tabD f).word 2 (W.lv + i) : Nat) : Int)), atN f (W.lv + i + 1) pg, putL (zeroF us f) pl (W.lv + i) (tabD f)) ⟨hilt, atN_lt hfh, by dsimp only; rw [putL_len, zeroF_len, hul], hlink, hst⟩ (hm := by dsimp only; omega) (h2 := by (exact clcntL))
      · have hik : i = lk := by simp at hc3; omega
        subst hik
        have hpl2 : pl < us.length := by omega
        obtain ⟨hszc, _, _, hset⟩ := hU.setG hpl2
        refine run ?_
        refine callM [⟨g3, cu, 47⟩] (⟨X, #[.slice (some ⟨g3, 0, none⟩) ws.length cap3, .int .i64 root], 239⟩ :: ⟨F, #[.int .i64 W.d.kind, .int .i64 W.d.frame, .bool W.d.r, .bool W.d.w, .bool W.d.x, .bool W.d.af, .bool W.d.ng, .int .i64 W.d.soft, .int .i64 W.d.note, .slice q2 W.fs.length cap2], 242⟩ :: ⟨E, #[.slice q ws.length cap, .int .i64 root], 239⟩ :: ⟨D, #[.slice none 0 0], 24⟩ :: ⟨C, #[.int .i64 d.kind, .int .i64 d.frame, .bool d.r, .bool d.w, .bool d.x, .bool d.af, .bool d.ng, .int .i64 d.soft, .int .i64 d.note], 124⟩ :: ⟨B, #[.slice q ws.length cap], 24⟩ :: h2) (fun wc hG => gPut_e _ hU root _ 3 (by decide) hpl2 (by omega) d hdm hG.hereN) ?_ clcntP
        rintro u4 hn4 ⟨rfl, hle4'⟩
        refine ops_sub hle4' ?_
        simp only [List.cons_append, List.nil_append]
        refine run ?_
        obtain ⟨p', e7, hc7, hsl7⟩ := hv.drop (i := i) rfl hcap (by omega)
        refine drawC 7 6 [0, 1, 2, 3, 4] [5, 6] [] ?_
        refine runZ ?_
        refine ds_b (by rfl) (by decide +kernel) (fun hx2 => x_sliceLV tb_ok rfl rfl (by rfl) (by omega) (by omega)) ?_
        rw [show sliced ql ((i : Nat) : Int).toNat l.length capl 1 = _ from e7]
        refine runZ ?_
        refine cCall (fun wc hG => cloneInts_e _ ((l.drop i).map inV) (hsl7.good hG) (by intro c hc; obtain ⟨x, _, rfl⟩ := List.mem_map.1 hc; exact ⟨rfl, rfl⟩) (by simp; omega)) ?_
        intro v5 h5 hO5
        obtain ⟨q5, cap5, rfl⟩ := hO5.opened
        refine cStore (b := D) (tb := 24) (cs := #[.slice none 0 0]) (cs' := #[.slice (some ⟨g3, 0, none⟩) ws.length cap3]) (hp' := h5 ++ (⟨g3, cu.setIfInBounds pl (.int .u64 ((d.word 2 3 : Nat) : Int)), 47⟩ :: ⟨X, #[.slice (some ⟨g3, 0, none⟩) ws.length cap3, .int .i64 root], 239⟩ :: ⟨F, #[.int .i64 W.d.kind, .int .i64 W.d.frame, .bool W.d.r, .bool W.d.w, .bool W.d.x, .bool W.d.af, .bool W.d.ng, .int .i64 W.d.soft, .int .i64 W.d.note, .slice q2 W.fs.length cap2], 242⟩ :: ⟨E, #[.slice q ws.length cap, .int .i64 root], 239⟩ :: ⟨C, #[.int .i64 d.kind, .int .i64 d.frame, .bool d.r, .bool d.w, .bool d.x, .bool d.af, .bool d.ng, .int .i64 d.soft, .int .i64 d.note], 124⟩ :: ⟨B, #[.slice q ws.length cap], 24⟩ :: h2)) ?_ clcntP
        refine dc_nil ?_
        refine opsC ?_
        refine run ?_
        rw [List.drop_eq_nil_of_le (by rw [List.length_take]; omega), linkL] at hlink
        refine finAT ⟨_, [⟨g3, cu.setIfInBounds pl (.int .u64 ((d.word 2 3 : Nat) : Int)), 47⟩], _, h5, rfl, ?_, hO5, by (exact clcntL)⟩
        rw [← hlink]
        exact hset _
end Go.Proofs.YtiaelhhmlbfkmaaGreat
