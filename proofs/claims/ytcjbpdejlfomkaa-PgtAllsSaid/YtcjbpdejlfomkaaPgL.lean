/- Layer 16: all that is mapped: the document's, the program's. -/
import Derived.Test.YtcjbpdejlfomkaaPgK
namespace Go.Proofs.Ytcjbpdejlfomkaa
open Go.RowKit
set_option linter.unusedVariables false
set_option linter.unusedSimpArgs false
set_option maxRecDepth 20000
theorem walk_grow {ws : List Nat} {p down : Nat} : ∀ (k level : Nat) (f : Int) (fs : List Int) (d : DsD), fs.length ≤ (walkL ws p down k level f fs d).fs.length := by
  intro k
  induction k with
  | zero => intro level f fs d; exact Nat.le_refl _
  | succ k ih =>
    intro level f fs d
    rw [walkL]
    cases hasF ws.length f with
    | false => exact Nat.le_refl _
    | true =>
      simp only [cond_true]
      cases (!decide ((dAt ws (atN f level p) level).kind = 1) || decide (level = down)) with
      | true => simp
      | false =>
        have := ih (level + 1) (dAt ws (atN f level p) level).frame (fs ++ [f]) (dAt ws (atN f level p) level)
        rw [List.length_append] at this
        simp only [cond_false]
        omega
/-- Pages that are alike on the way are walked alike. -/
theorem walk_same {ws : List Nat} {p q : Nat} : ∀ (k level : Nat) (f : Int) (fs : List Int) (d : DsD), fs.length = level → (∀ l, level ≤ l → l < (walkL ws p 3 k level f fs d).fs.length → indexN l q = indexN l p) → walkL ws q 3 k level f fs d = walkL ws p 3 k level f fs d := by
  intro k
  induction k with
  | zero => intro level f fs d _ _; rfl
  | succ k ih =>
    intro level f fs d hfs h
    have hg : hasF ws.length f = true → level < (walkL ws p 3 (k + 1) level f fs d).fs.length := fun hh => by
      rw [walkL, hh]
      simp only [cond_true]
      cases (!decide ((dAt ws (atN f level p) level).kind = 1) || decide (level = 3)) with
      | true => simp [hfs]
      | false =>
        have := walk_grow (ws := ws) (p := p) (down := 3) k (level + 1) (dAt ws (atN f level p) level).frame (fs ++ [f]) (dAt ws (atN f level p) level)
        rw [List.length_append, hfs] at this
        simp only [cond_false]
        exact this
    cases hh : hasF ws.length f with
    | false => rw [walkL, walkL, hh]; rfl
    | true =>
      have hi := h level (Nat.le_refl _) (hg hh)
      rw [walkL] at h
      rw [walkL, walkL, hh]
      simp only [cond_true]
      rw [show atN f level q = atN f level p by unfold atN; rw [hi]]
      rw [hh] at h
      simp only [cond_true] at h
      cases hc : (!decide ((dAt ws (atN f level p) level).kind = 1) || decide (level = 3)) with
      | true => rfl
      | false =>
        rw [hc] at h
        simp only [cond_false] at h ⊢
        exact ih _ _ _ _ (by simp [hfs]) fun l h1 h2 => h l (by omega) h2
theorem covers_pow {l : Nat} : coversN l = 2 ^ dbits l := by unfold coversN; rw [Nat.one_shiftLeft]
/-- A page's block. -/
theorem way_block {ws : List Nat} {root : Int} {p q : Nat} (h : q / coversN (wayL ws root p 3).lv = p / coversN (wayL ws root p 3).lv) : wayL ws root q 3 = wayL ws root p 3 := by
  refine walk_same 4 0 root [] noDs rfl fun l _ hl => ?_
  have hle : l ≤ (wayL ws root p 3).lv := by unfold WkD.lv wayL; omega
  have h4 := wayL_len ws root p 3
  generalize (wayL ws root p 3).lv = lv at h hle
  unfold indexN
  rw [Nat.shiftRight_eq_div_pow, Nat.shiftRight_eq_div_pow]
  rw [covers_pow] at h
  have hb : dbits l = dbits lv + (dbits l - dbits lv) := by unfold dbits; omega
  rw [hb, Nat.pow_add, ← Nat.div_div_eq_div_mul, ← Nat.div_div_eq_div_mul, h]
attribute [local irreducible] Hy St Ops DH DHF
theorem eqMapsQ_e {w : World} (xs : List MpD) (u v : Value) (hu : SlAt w u 2 (xs.map mpV)) (hv : SlAt w v 2 (xs.map mpV)) : Fn Try.prog 32 [u, v].toArray w [] (fun r _ => r = .bool true) := by
  obtain ⟨q, cap, rfl, hne, hle⟩ := hu.opened
  obtain ⟨q2, cap2, rfl, hne2, _⟩ := hv.opened
  refine enter Try.func32 ?_
  refine run ?_
  refine st_cond _ rfl (fun hc => absurd hc (by simp)) (fun hc => ?_)
  refine run ?_
  refine loopS (σ := Nat) (fun k => [(5, .int .i64 (k : Int))]) (fun _ => []) (fun k => k ≤ xs.length) (fun k => xs.length - k) 0 (Nat.zero_le _) ?_
  rintro k m hm hk
  refine run ?_
  refine st_cond _ rfl (fun hc => ?_) (fun hc => ?_)
  · have hlt : k < xs.length := by simp at hc; omega
    obtain ⟨b, o, rfl⟩ := hne (by intro e; subst e; simp at hlt)
    obtain ⟨b2, o2, rfl⟩ := hne2 (by intro e; subst e; simp at hlt)
    have h1 := (hu.row hlt)
    have h2 := (hv.row hlt)
    simp only [mpV] at h1 h2
    refine run ?_
    refine drawAll ?_
    refine runD ?_
    refine run ?_
    refine st_cond _ rfl (fun hp => ?_) (fun hp => ?_)
    · simp [eqLeaves, eqLeaf] at hp
    · refine run ?_
      exact nextS (k + 1) hlt
  · refine run ?_
    exact fin1 rfl
def AllR2 (r : Option (List MpD)) (u : Value) (hn : Hp) : Prop := match r with
  | none => u = .tuple #[.slice none 0 0, .bool false]
  | some xs => ∃ v h, u = .tuple #[v, .bool true] ∧ Own 133 2 v h (xs.map mpV) ∧ HpLe h hn
theorem rAll_e (ws : List Nat) (hw : W64 ws) {w : World} {v : Value} (h : SlAt w v 1 (ws.map uV)) (root : Int) (hn : ws.length < 1000000) : Fn Try.prog 31 [.agg #[v], .int .i64 root].toArray w [] (fun u hn => AllR2 (pgsL ws root 0 4096) u hn) := by
  obtain ⟨q, cap, rfl, hne, hle⟩ := h.opened
  refine enter Try.func31 ?_
  refine run ?_
  intro B
  refine run ?_
  refine loopS (σ := Nat × Value × Hp × List MpD) (fun s => [(7, .int .i64 (s.1 : Int)), (6, s.2.1)]) (fun s => ⟨B, #[.slice q ws.length cap], 24⟩ :: s.2.2.1) (fun s => s.1 ≤ 4096 ∧ s.2.2.2.length ≤ s.1 ∧ pgsL ws root 0 s.1 = some s.2.2.2 ∧ (∀ q, q < s.1 → (q / coversN (wayL ws root q 3).lv + 1) * coversN (wayL ws root q 3).lv ≤ s.1) ∧ Acc 133 2 s.2.1 s.2.2.1 (s.2.2.2.map mpV)) (fun s => 4096 - s.1) (0, .slice none 0 0, [], []) ⟨Nat.zero_le _, Nat.le_refl _, rfl, fun q hq => absurd hq (by omega), Acc.nil _ _⟩ ?_
  rintro ⟨mid, av, ha, xs⟩ m hm ⟨hmid, hxl, hpg, hbl, hA⟩
  dsimp only at hm hmid hxl hpg hbl hA ⊢
  obtain ⟨qa, ca, ea⟩ := hA.own.opened
  rw [List.length_map] at ea
  subst ea
  refine run ?_
  refine st_cond _ rfl (fun hc => ?_) (fun hc => ?_)
  · have hlt : mid ≤ 4095 := by simp at hc; omega
    refine run ?_
    refine callB (fun wc hG => rWay_e ws hw (h.good hG) root mid hlt (by omega)) ?_
    rintro u hn2 ⟨v2, h2, rfl, hO, hle2⟩
    have hl4 := wayL_len ws root mid 3
    have hwb := fun p2 => way_block (ws := ws) (root := root) (p := mid) (q := p2)
    generalize hW : wayL ws root mid 3 = W at hO hl4 hwb ⊢
    obtain ⟨q2, c2, e2⟩ := hO.opened
    rw [List.length_map] at e2
    subst e2
    refine ops_le (⟨B, #[.slice q ws.length cap], 24⟩ :: ha) (by (refine hpLe_cnt fun a => ?_; simp only [cntB_app, cntB_cons, cntB_nil]; omega)) ?_
    refine run ?_
    intro D
    refine run ?_
    cases hok : W.ok with
    | false =>
      have hnone : pgsL ws root 0 4096 = none := pgs_none (k := mid) (by unfold pageM; rw [Nat.zero_add, hW]; simp [hok]) (by omega)
      rw [hnone]
      refine runC ?_
      exact fin2 rfl
    | true =>
      have hfine := wayL_fine (hW ▸ hok)
      rw [hW] at hfine
      have hpos := hfine.pos
      have hc9 := dbits_lt (level := W.lv) (by unfold WkD.lv; omega)
      simp only [cond_true]
      refine runC ?_
      refine callE (fun wc hG => rCovers_e W.lv (by unfold WkD.lv; omega) wc) ?_
      refine run ?_
      generalize hcv : coversN W.lv = c at *
      have hal : mid % c = 0 := by
        rcases Nat.eq_zero_or_pos (mid % c) with h0 | h0
        · exact h0
        · exfalso
          have hdm := Nat.div_add_mod mid c
          have hm0 : mid ≠ 0 := by intro e; rw [e, Nat.zero_mod] at h0; omega
          have hq : (mid - 1) / c = mid / c := by
            have : mid - 1 = (mid % c - 1) + c * (mid / c) := by omega
            have hlt2 := Nat.mod_lt mid (show 0 < c by omega)
            rw [this, Nat.add_mul_div_left _ _ (by omega), Nat.div_eq_of_lt (by omega), Nat.zero_add]
          have h1 := hbl (mid - 1) (by omega)
          rw [hwb (mid - 1) hq, hcv, hq, Nat.succ_mul] at h1
          have hlt2 := Nat.mod_lt mid (show 0 < c by omega)
          rw [Nat.mul_comm] at h1
          omega
      have hc4 : c = 512 ∨ c = 64 ∨ c = 8 ∨ c = 1 := by
        rw [← hcv]
        have h4 : W.lv < 4 := by unfold WkD.lv; omega
        generalize W.lv = lv at h4
        obtain rfl | rfl | rfl | rfl : lv = 0 ∨ lv = 1 ∨ lv = 2 ∨ lv = 3 := by omega
        all_goals decide
      have hmc : mid + c ≤ 4096 := by clear hcv; rcases hc4 with rfl | rfl | rfl | rfl <;> omega
      have hqd : ∀ q, mid ≤ q → q < mid + c → q / c = mid / c := fun q h1 h2 => by clear hcv; rcases hc4 with rfl | rfl | rfl | rfl <;> omega
      have hbl2 : ∀ q, q < mid + c → (q / coversN (wayL ws root q 3).lv + 1) * coversN (wayL ws root q 3).lv ≤ mid + c := fun q hq => by
        rcases Nat.lt_or_ge q mid with h1 | h1
        · exact Nat.le_trans (hbl q h1) (by omega)
        · rw [hwb q (hqd q h1 hq), hcv, hqd q h1 hq, Nat.succ_mul, Nat.mul_comm]
          have := Nat.div_add_mod mid c
          omega
      have hws : ∀ j, j < c → wayL ws root (mid + j) 3 = W := fun j hj => hwb _ (hqd _ (by omega) (by omega))
      have hall : pgsL ws root 0 (mid + c) = some (xs ++ bif decide (W.d.kind = 2) then rowM mid W.d.frame c else []) := by
        rw [pgs_add, hpg]
        dsimp only
        rw [Nat.zero_add]
        by_cases hk : W.d.kind = 2
        · rw [pgs_leaf hok hk (by rw [hcv]; exact hal) c (by rw [hcv]; exact Nat.le_refl _) hws, decide_eq_true hk]; rfl
        · rw [pgs_no hok hk c hws, decide_eq_false hk]; rfl
      have hfr : W.d.kind = 2 → 0 ≤ W.d.frame ∧ W.d.frame ≤ 4095 := fun hk => by
        have hmay : W.d.may 2 W.lv = true := by rw [hfine.d]; exact dAt_may _ _ _
        obtain ⟨_, _, _, k4⟩ := may_kinds hmay
        have := k4 hk; omega
      refine st_cond _ rfl (fun hc2 => ?_) (fun hc2 => ?_)
      · have hk : W.d.kind = 2 := of_decide_eq_true hc2
        have hfr2 := hfr hk
        rw [decide_eq_true hk] at hall
        refine run ?_
        refine loopS (σ := Nat × Value × Hp) (fun s => [(13, .int .i64 (s.1 : Int)), (6, s.2.1)]) (fun s => ⟨D, #[.int .i64 W.d.kind, .int .i64 W.d.frame, .bool W.d.r, .bool W.d.w, .bool W.d.x, .bool W.d.af, .bool W.d.ng, .int .i64 W.d.soft, .int .i64 W.d.note], 38⟩ :: ⟨B, #[.slice q ws.length cap], 24⟩ :: s.2.2) (fun s => s.1 ≤ c ∧ Acc 133 2 s.2.1 s.2.2 ((xs ++ rowM mid W.d.frame s.1).map mpV)) (fun s => c - s.1) (0, .slice qa xs.length ca, ha) ⟨Nat.zero_le _, by simpa [rowM] using hA⟩ ?_
        rintro ⟨k, kv, hk2⟩ m2 hm2 ⟨hkc, hA2⟩
        dsimp only at hm2 hkc hA2 ⊢
        obtain ⟨qb, cb, eb⟩ := hA2.own.opened
        subst eb
        refine run ?_
        refine st_cond _ rfl (fun hc3 => ?_) (fun hc3 => ?_)
        · have hklt : k < c := by simp at hc3; omega
          refine run ?_
          intro T
          refine appendA (c := mpV ⟨((mid + k : Nat) : Int), W.d.frame + (k : Int)⟩) (hp' := [⟨T, #[.int .i64 ((mid : Int) + (k : Int)), .int .i64 (W.d.frame + (k : Int))], 133⟩, ⟨D, #[.int .i64 W.d.kind, .int .i64 W.d.frame, .bool W.d.r, .bool W.d.w, .bool W.d.x, .bool W.d.af, .bool W.d.ng, .int .i64 W.d.soft, .int .i64 W.d.note], 38⟩, ⟨B, #[.slice q ws.length cap], 24⟩]) hA2 (fun v' ha' hA' => ?_) (by simp [rowM_len]; omega) (news_own (m := 2) mh rfl) (hperm := by (refine perm_cnt fun a => ?_; simp only [cntB_app, cntB_cons, cntB_nil]; omega))
          rw [show (xs ++ rowM mid W.d.frame k).map mpV ++ [mpV ⟨((mid + k : Nat) : Int), W.d.frame + (k : Int)⟩] = (xs ++ rowM mid W.d.frame (k + 1)).map mpV by rw [rowM]; simp] at hA'
          refine ops_le (⟨D, #[.int .i64 W.d.kind, .int .i64 W.d.frame, .bool W.d.r, .bool W.d.w, .bool W.d.x, .bool W.d.af, .bool W.d.ng, .int .i64 W.d.soft, .int .i64 W.d.note], 38⟩ :: ⟨B, #[.slice q ws.length cap], 24⟩ :: ha') (by (refine hpLe_cnt fun a => ?_; simp only [cntB_app, cntB_cons, cntB_nil]; omega)) ?_
          refine run ?_
          refine nextS (k + 1, v', ha') ⟨hklt, hA'⟩ (hm := by dsimp only; omega) (h2 := by (refine hpLe_cnt fun a => ?_; simp only [cntB_app, cntB_cons, cntB_nil]; omega))
        · have hkc2 : k = c := by simp at hc3; omega
          subst hkc2
          refine run ?_
          refine nextS (mid + k, .slice qb ((xs ++ rowM mid W.d.frame k).map mpV).length cb, hk2, xs ++ rowM mid W.d.frame k) ⟨hmc, by simp [rowM_len]; omega, hall, hbl2, hA2⟩ (hm := by dsimp only; omega) (h2 := by (refine hpLe_cnt fun a => ?_; simp only [cntB_app, cntB_cons, cntB_nil]; omega))
      · have hk : ¬ W.d.kind = 2 := of_decide_eq_false hc2
        rw [decide_eq_false hk] at hall
        refine run ?_
        refine nextS (mid + c, .slice qa xs.length ca, ha, xs) ⟨hmc, by dsimp only; omega, by simpa using hall, hbl2, hA⟩ (hm := by dsimp only; omega) (h2 := by (refine hpLe_cnt fun a => ?_; simp only [cntB_app, cntB_cons, cntB_nil]; omega))
  · refine run ?_
    have : mid = 4096 := by simp at hc; omega
    subst this
    rw [hpg]
    exact fin2 ⟨_, ha, rfl, hA.own, by (refine hpLe_cnt fun a => ?_; simp only [cntB_app, cntB_cons, cntB_nil]; omega)⟩
end Go.Proofs.Ytcjbpdejlfomkaa
