/- Layer 21 (abs): partitions whose pages are not the same; a hypervisor is copied. -/
import Derived.Test.YtiaelhhmlbfkmaaGreatAbF
import Derived.Test.YtiaelhhmlbfkmaaGreatLay2
import Derived.Test.YtiaelhhmlbfkmaaGreatMmA
namespace Go.Proofs.YtiaelhhmlbfkmaaGreat
open Go.RowKit
set_option linter.unusedVariables false
set_option linter.unusedSimpArgs false
set_option maxRecDepth 20000
attribute [local irreducible] Hy St Ops DH DHF DE1 DE2 DE3 DS DCh DWF
theorem eqPagesNe_e {w : World} (n : Nat) (xs ys : List PgD) (hx : xs.length = n) (hy : ys.length = n) (hn : xs ≠ ys) (u v : Value) (hu : SlAt w u 2 (xs.map pgV)) (hv : SlAt w v 2 (ys.map pgV)) : Fn Tryz.prog 36 [u, v].toArray w [] (fun r _ => r = .bool false) := by
  have hou := hu.opened
  have hov := hv.opened
  rw [hx] at hou
  rw [hy] at hov
  obtain ⟨q, cap, rfl, hne, hle⟩ := hou
  obtain ⟨q2, cap2, rfl, hne2, _⟩ := hov
  refine enter Tryz.func36 ?_
  refine run ?_
  refine st_cond _ rfl (fun hc => absurd hc (by simp)) (fun hc => ?_)
  refine run ?_
  refine loopS (σ := Nat) (fun k => [(5, .int .i64 (k : Int))]) (fun _ => []) (fun k => k ≤ n ∧ ∀ j, j < k → xs.getD j default = ys.getD j default) (fun k => n - k) 0 ⟨Nat.zero_le _, fun j hj => absurd hj (Nat.not_lt_zero _)⟩ ?_
  rintro k m hm ⟨hk, hK⟩
  refine run ?_
  refine st_cond _ rfl (fun hc => ?_) (fun hc => ?_)
  · have hlt : k < n := by simp at hc; omega
    have hlx : k < xs.length := by omega
    have hly : k < ys.length := by omega
    obtain ⟨b, o, rfl⟩ := hne (by intro e; subst e; simp at hlx)
    obtain ⟨b2, o2, rfl⟩ := hne2 (by intro e; subst e; simp at hly)
    have h1 := (hu.row hlx)
    have h2 := (hv.row hly)
    generalize hg : xs.getD k default = g at h1
    generalize hg2 : ys.getD k default = g2 at h2
    simp only [pgV] at h1 h2
    refine run ?_
    refine drawAll ?_
    refine runD ?_
    refine run ?_
    refine st_cond _ rfl (fun hp => ?_) (fun hp => ?_)
    · refine run ?_
      exact fin1 rfl
    · refine run ?_
      refine nextS (k + 1) ⟨hlt, fun j hj => ?_⟩
      by_cases e : j = k
      · subst e
        rw [hg, hg2]
        obtain ⟨g1, g3⟩ := g
        obtain ⟨g5, g4⟩ := g2
        simp [eqLeaves, eqLeaf] at hp
        obtain ⟨e1, e2⟩ := hp
        simp [e1, e2]
      · exact hK j (by omega)
  · exfalso
    apply hn
    have hkn : k = n := by simp at hc; omega
    subst hkn
    refine List.ext_getElem (hx.trans hy.symm) fun j h1 h2 => ?_
    have := hK j (by omega)
    rwa [List.getD_eq_getElem?_getD, List.getD_eq_getElem?_getD, List.getElem?_eq_getElem h1, List.getElem?_eq_getElem h2] at this
theorem eqPartNe_e {w : World} {pv gv ov pv' gv' ov' : Value} {P Q : PtD} (h : PartG w pv gv ov P) (h' : PartG w pv' gv' ov' Q) (hl : P.pages.length = Q.pages.length) (hn : P.pages ≠ Q.pages) : Fn Tryz.prog 18 [.agg #[pv, gv, ov], .agg #[pv', gv', ov']].toArray w [] (fun r _ => r = .bool false) := by
  obtain ⟨a1, a2, a3⟩ := h.agg
  obtain ⟨b1, b2, b3⟩ := h'.agg
  refine enter Tryz.func18 ?_
  refine run ?_
  intro B C
  refine run ?_
  refine callE (fun wc hG => eqPagesNe_e Q.pages.length _ _ hl rfl hn _ _ (h.pages.good hG) (h'.pages.good hG)) ?_
  refine runG ?_
  exact fin1 rfl
theorem nilE_e (w : World) : Fn Tryz.prog 259 [.slice none 0 0].toArray w [] (fun u _ => u = .slice none 0 0) := by
  refine enter Tryz.func259 ?_
  refine run ?_
  refine loopS (σ := Unit) (fun _ => [(4, .int .i64 0)]) (fun _ => []) (fun _ => True) (fun _ => 0) () trivial ?_
  rintro _ m hm _
  refine run ?_
  refine st_cond _ rfl (fun hc => absurd hc (by decide)) (fun hc => ?_)
  refine run ?_
  exact fin1 rfl
theorem nilI_e (w : World) : Fn Tryz.prog 260 [.slice none 0 0].toArray w [] (fun u _ => u = .slice none 0 0) := by
  refine enter Tryz.func260 ?_
  refine run ?_
  refine loopS (σ := Unit) (fun _ => [(4, .int .i64 0)]) (fun _ => []) (fun _ => True) (fun _ => 0) () trivial ?_
  rintro _ m hm _
  refine run ?_
  refine st_cond _ rfl (fun hc => absurd hc (by decide)) (fun hc => ?_)
  refine run ?_
  exact fin1 rfl
theorem nilV_e (w : World) : Fn Tryz.prog 186 [.slice none 0 0].toArray w [] (fun u _ => u = .slice none 0 0) := by
  refine enter Tryz.func186 ?_
  refine run ?_
  refine loopS (σ := Unit) (fun _ => [(4, .int .i64 0)]) (fun _ => []) (fun _ => True) (fun _ => 0) () trivial ?_
  rintro _ m hm _
  refine run ?_
  refine st_cond _ rfl (fun hc => absurd hc (by decide)) (fun hc => ?_)
  refine run ?_
  exact fin1 rfl
theorem nilN_e (w : World) : Fn Tryz.prog 146 [.slice none 0 0].toArray w [] (fun u _ => u = .slice none 0 0) := by
  refine enter Tryz.func146 ?_
  refine run ?_
  refine loopS (σ := Unit) (fun _ => [(4, .int .i64 0)]) (fun _ => []) (fun _ => True) (fun _ => 0) () trivial ?_
  rintro _ m hm _
  refine run ?_
  refine st_cond _ rfl (fun hc => absurd hc (by decide)) (fun hc => ?_)
  refine run ?_
  exact fin1 rfl
theorem cTlb_e (w : World) : Fn Tryz.prog 185 [.agg #[.slice none 0 0, .slice none 0 0]].toArray w [] (fun u _ => u = .agg #[.slice none 0 0, .slice none 0 0]) := by
  refine enter Tryz.func185 ?_
  refine run ?_
  intro B X Y
  refine run ?_
  refine callE (fun wc hG => nilE_e wc) ?_
  refine run ?_
  refine callE (fun wc hG => nilI_e wc) ?_
  refine run ?_
  exact finA (cs := #[.slice none 0 0, .slice none 0 0]) rfl
theorem cCpu_e (w : World) : Fn Tryz.prog 95 [.agg #[.int .u64 0, .int .u64 0, .int .u64 0, .int .u64 0, .int .u64 0, .int .u64 0, .int .u64 0, .int .u64 0, .int .u64 0, .int .u64 0, .int .u64 0, .int .u64 0, .int .u64 0, .int .u64 0, .int .u64 0, .int .i64 0, .int .i64 0, .slice none 0 0, .slice none 0 0]].toArray w [] (fun u _ => u = .agg #[.int .u64 0, .int .u64 0, .int .u64 0, .int .u64 0, .int .u64 0, .int .u64 0, .int .u64 0, .int .u64 0, .int .u64 0, .int .u64 0, .int .u64 0, .int .u64 0, .int .u64 0, .int .u64 0, .int .u64 0, .int .i64 0, .int .i64 0, .slice none 0 0, .slice none 0 0]) := by
  refine enter Tryz.func95 ?_
  refine run ?_
  intro B X Y
  refine run ?_
  refine callE (fun wc hG => cTlb_e wc) ?_
  refine run ?_
  exact finA (cs := #[.int .u64 0, .int .u64 0, .int .u64 0, .int .u64 0, .int .u64 0, .int .u64 0, .int .u64 0, .int .u64 0, .int .u64 0, .int .u64 0, .int .u64 0, .int .u64 0, .int .u64 0, .int .u64 0, .int .u64 0, .int .i64 0, .int .i64 0, .slice none 0 0, .slice none 0 0]) rfl
theorem cVm_e (w : World) : Fn Tryz.prog 96 [.agg #[.bool false, .bool false, .int .i64 0, .slice none 0 0, .slice none 0 0, .slice none 0 0]].toArray w [] (fun u _ => u = .agg #[.bool false, .bool false, .int .i64 0, .slice none 0 0, .slice none 0 0, .slice none 0 0]) := by
  refine enter Tryz.func96 ?_
  refine run ?_
  intro B X Y
  refine run ?_
  refine callE (fun wc hG => nilN_e wc) ?_
  refine run ?_
  refine callE (fun wc hG => nilN_e wc) ?_
  refine run ?_
  refine callE (fun wc hG => nilV_e wc) ?_
  refine run ?_
  exact finA (cs := #[.bool false, .bool false, .int .i64 0, .slice none 0 0, .slice none 0 0, .slice none 0 0]) rfl
theorem cCpus_e {w : World} (C : Nat) (hc : C ≤ 3) (v : Value) (h : SlAt w v 19 ((List.replicate C cpu0).map cpV)) : Fn Tryz.prog 45 [v].toArray w [] (fun u hp => Acc 84 19 u hp ((List.replicate C cpu0).map cpV)) := by
  have ho := h.opened
  rw [List.length_replicate] at ho
  obtain ⟨q, cap, rfl, hne, _⟩ := ho
  refine enter Tryz.func45 ?_
  refine run ?_
  refine loopS (σ := Nat × Value × Hp) (fun s => [(3, s.2.1), (4, .int .i64 (s.1 : Int))]) (fun s => s.2.2) (fun s => s.1 ≤ C ∧ Acc 84 19 s.2.1 s.2.2 ((List.replicate s.1 cpu0).map cpV)) (fun s => C - s.1) (0, _, []) ⟨Nat.zero_le _, Acc.nil _ _⟩ ?_
  rintro ⟨k, v, ha⟩ m hm ⟨hk, hA⟩
  dsimp only at hm hk hA ⊢
  refine run ?_
  refine st_cond _ rfl (fun hc2 => ?_) (fun hc2 => ?_)
  · have hlt : k < C := by simp at hc2; omega
    obtain ⟨b, o, rfl⟩ := hne (by intro e; have := congrArg List.length e; simp at this; omega)
    have hr := h.row (k := k) (by simpa using hlt)
    rw [show (List.replicate C cpu0).getD k default = cpu0 by rw [List.getD_eq_getElem?_getD, List.getElem?_replicate, if_pos hlt]; rfl] at hr
    replace hr : w.rangeAt b (o + k * 19) [.int .u64 0, .int .u64 0, .int .u64 0, .int .u64 0, .int .u64 0, .int .u64 0, .int .u64 0, .int .u64 0, .int .u64 0, .int .u64 0, .int .u64 0, .int .u64 0, .int .u64 0, .int .u64 0, .int .u64 0, .int .i64 0, .int .i64 0, .slice none 0 0, .slice none 0 0] := hr
    refine run ?_
    refine callE (fun wc hG => cCpu_e wc) ?_
    refine run ?_
    intro T
    refine appendA (c := [.int .u64 0, .int .u64 0, .int .u64 0, .int .u64 0, .int .u64 0, .int .u64 0, .int .u64 0, .int .u64 0, .int .u64 0, .int .u64 0, .int .u64 0, .int .u64 0, .int .u64 0, .int .u64 0, .int .u64 0, .int .i64 0, .int .i64 0, .slice none 0 0, .slice none 0 0]) hA (fun v' ha' hA' => ?_) (by simp; omega) (news_own (m := 19) mh rfl)
    refine run ?_
    refine nextS (k + 1, v', ha') ⟨hlt, ?_⟩
    dsimp only
    rw [List.replicate_succ', List.map_append]
    exact hA'
  · have hkC : k = C := by simp at hc2; omega
    subst hkC
    refine run ?_
    exact fin1 hA
theorem cVms_e {w : World}  (v : Value) (h : SlAt w v 6 ((List.replicate 4 vm0).map vmV)) : Fn Tryz.prog 46 [v].toArray w [] (fun u hp => Acc 111 6 u hp ((List.replicate 4 vm0).map vmV)) := by
  have ho := h.opened
  rw [List.length_replicate] at ho
  obtain ⟨q, cap, rfl, hne, _⟩ := ho
  refine enter Tryz.func46 ?_
  refine run ?_
  refine loopS (σ := Nat × Value × Hp) (fun s => [(3, s.2.1), (4, .int .i64 (s.1 : Int))]) (fun s => s.2.2) (fun s => s.1 ≤ 4 ∧ Acc 111 6 s.2.1 s.2.2 ((List.replicate s.1 vm0).map vmV)) (fun s => 4 - s.1) (0, _, []) ⟨Nat.zero_le _, Acc.nil _ _⟩ ?_
  rintro ⟨k, v, ha⟩ m hm ⟨hk, hA⟩
  dsimp only at hm hk hA ⊢
  refine run ?_
  refine st_cond _ rfl (fun hc2 => ?_) (fun hc2 => ?_)
  · have hlt : k < 4 := by simp at hc2; omega
    obtain ⟨b, o, rfl⟩ := hne (by intro e; have := congrArg List.length e; simp at this)
    have hr := h.row (k := k) (by simpa using hlt)
    rw [show (List.replicate 4 vm0).getD k default = vm0 by rw [List.getD_eq_getElem?_getD, List.getElem?_replicate, if_pos hlt]; rfl] at hr
    replace hr : w.rangeAt b (o + k * 6) [.bool false, .bool false, .int .i64 0, .slice none 0 0, .slice none 0 0, .slice none 0 0] := hr
    refine run ?_
    refine callE (fun wc hG => cVm_e wc) ?_
    refine run ?_
    intro T
    refine appendA (c := [.bool false, .bool false, .int .i64 0, .slice none 0 0, .slice none 0 0, .slice none 0 0]) hA (fun v' ha' hA' => ?_) (by simp; omega) (news_own (m := 6) mh rfl)
    refine run ?_
    refine nextS (k + 1, v', ha') ⟨hlt, ?_⟩
    dsimp only
    rw [List.replicate_succ', List.map_append]
    exact hA'
  · have hkC : k = 4 := by simp at hc2; omega
    subst hkC
    refine run ?_
    exact fin1 hA
theorem cRegs_e {w : World} (C : Nat) (hc : C ≤ 3) (v : Value) (h : SlAt w v 15 ((List.replicate C noRg).map rgV)) : Fn Tryz.prog 47 [v].toArray w [] (fun u hp => Acc 78 15 u hp ((List.replicate C noRg).map rgV)) := by
  have ho := h.opened
  rw [List.length_replicate] at ho
  obtain ⟨q, cap, rfl, hne, _⟩ := ho
  refine enter Tryz.func47 ?_
  refine run ?_
  refine loopS (σ := Nat × Value × Hp) (fun s => [(3, s.2.1), (4, .int .i64 (s.1 : Int))]) (fun s => s.2.2) (fun s => s.1 ≤ C ∧ Acc 78 15 s.2.1 s.2.2 ((List.replicate s.1 noRg).map rgV)) (fun s => C - s.1) (0, _, []) ⟨Nat.zero_le _, Acc.nil _ _⟩ ?_
  rintro ⟨k, v, ha⟩ m hm ⟨hk, hA⟩
  dsimp only at hm hk hA ⊢
  refine run ?_
  refine st_cond _ rfl (fun hc2 => ?_) (fun hc2 => ?_)
  · have hlt : k < C := by simp at hc2; omega
    obtain ⟨b, o, rfl⟩ := hne (by intro e; have := congrArg List.length e; simp at this; omega)
    have hr := h.row (k := k) (by simpa using hlt)
    rw [show (List.replicate C noRg).getD k default = noRg by rw [List.getD_eq_getElem?_getD, List.getElem?_replicate, if_pos hlt]; rfl] at hr
    replace hr : w.rangeAt b (o + k * 15) [.int .u64 0, .int .u64 0, .int .u64 0, .int .u64 0, .int .u64 0, .int .u64 0, .int .u64 0, .int .u64 0, .int .u64 0, .int .u64 0, .int .u64 0, .int .u64 0, .int .u64 0, .int .u64 0, .int .u64 0] := hr
    refine run ?_
    intro T
    refine appendA (c := [.int .u64 0, .int .u64 0, .int .u64 0, .int .u64 0, .int .u64 0, .int .u64 0, .int .u64 0, .int .u64 0, .int .u64 0, .int .u64 0, .int .u64 0, .int .u64 0, .int .u64 0, .int .u64 0, .int .u64 0]) hA (fun v' ha' hA' => ?_) (by simp; omega) (news_own (m := 15) mh rfl)
    refine run ?_
    refine nextS (k + 1, v', ha') ⟨hlt, ?_⟩
    dsimp only
    rw [List.replicate_succ', List.map_append]
    exact hA'
  · have hkC : k = C := by simp at hc2; omega
    subst hkC
    refine run ?_
    exact fin1 hA
/-- A hypervisor of one's own. -/
def HypR (ws : List Nat) (C : Nat) (u : Value) (hn : Hp) : Prop := ∃ v1 h1 v2 h2 v3 h3 v4 h4, u = .agg #[v1, v2, v3, v4] ∧ Own 47 1 v1 h1 (ws.map uV) ∧ Acc 84 19 v2 h2 ((List.replicate C cpu0).map cpV) ∧ Acc 111 6 v3 h3 ((List.replicate 4 vm0).map vmV) ∧ Acc 78 15 v4 h4 ((List.replicate C noRg).map rgV) ∧ HpLe (h1 ++ (h2 ++ (h3 ++ h4))) hn
theorem cHyp_e {w : World} {wv cv vv rv : Value} {ws : List Nat} {C : Nat} (h : HyAt w wv cv vv rv ws (List.replicate C cpu0) (List.replicate 4 vm0) (List.replicate C noRg)) (hl : ws.length < 1000000) (hc : C ≤ 3) : Fn Tryz.prog 22 [.agg #[wv, cv, vv, rv]].toArray w [] (HypR ws C) := by
  obtain ⟨q, cap, rfl, hne, _⟩ := h.ws.opened
  have ho2 := h.cs.rows.opened
  have ho3 := h.vs.rows.opened
  have ho4 := h.rs.opened
  rw [List.length_replicate] at ho2 ho3 ho4
  obtain ⟨q2, cap2, rfl, hne2, _⟩ := ho2
  obtain ⟨q3, cap3, rfl, hne3, _⟩ := ho3
  obtain ⟨q4, cap4, rfl, hne4, _⟩ := ho4
  refine enter Tryz.func22 ?_
  refine run ?_
  intro H R Y
  refine run ?_
  refine callB (fun wc hG => copyMem_e ws _ (h.ws.good hG) hl) ?_
  rintro _ hn1 ⟨v1, h1, rfl, hO1, hle1⟩
  obtain ⟨q9, k1, e1⟩ := hO1.opened
  rw [List.length_map] at e1
  subst e1
  refine ops_le (⟨Y, #[.slice q ws.length cap, .slice q2 C cap2, .slice q3 4 cap3, .slice q4 C cap4], 29⟩ :: ⟨H, #[.slice q ws.length cap, .slice q2 C cap2, .slice q3 4 cap3, .slice q4 C cap4], 29⟩ :: ⟨R, #[.slice none 0 0, .slice none 0 0, .slice none 0 0, .slice none 0 0], 29⟩ :: h1) (cnt1 hle1) ?_
  refine run ?_
  refine callB (fun wc hG => cCpus_e C hc _ (h.cs.rows.good hG)) ?_
  rintro v2 h2 hA2
  obtain ⟨q8, k2, e2⟩ := hA2.own.opened
  rw [List.length_map, List.length_replicate] at e2
  subst e2
  refine ops_le (⟨Y, #[.slice q9 ws.length k1, .slice q2 C cap2, .slice q3 4 cap3, .slice q4 C cap4], 29⟩ :: ⟨H, #[.slice q ws.length cap, .slice q2 C cap2, .slice q3 4 cap3, .slice q4 C cap4], 29⟩ :: ⟨R, #[.slice none 0 0, .slice none 0 0, .slice none 0 0, .slice none 0 0], 29⟩ :: (h1 ++ h2)) clcntL ?_
  refine run ?_
  refine callB (fun wc hG => cVms_e _ (h.vs.rows.good hG)) ?_
  rintro v3 h3 hA3
  obtain ⟨q7, k3, e3⟩ := hA3.own.opened
  rw [List.length_map, List.length_replicate] at e3
  subst e3
  refine ops_le (⟨Y, #[.slice q9 ws.length k1, .slice q8 C k2, .slice q3 4 cap3, .slice q4 C cap4], 29⟩ :: ⟨H, #[.slice q ws.length cap, .slice q2 C cap2, .slice q3 4 cap3, .slice q4 C cap4], 29⟩ :: ⟨R, #[.slice none 0 0, .slice none 0 0, .slice none 0 0, .slice none 0 0], 29⟩ :: (h1 ++ (h2 ++ h3))) clcntL ?_
  refine run ?_
  refine callB (fun wc hG => cRegs_e C hc _ (h.rs.good hG)) ?_
  rintro v4 h4 hA4
  obtain ⟨q6, k4, e4⟩ := hA4.own.opened
  rw [List.length_map, List.length_replicate] at e4
  subst e4
  refine ops_le (⟨Y, #[.slice q9 ws.length k1, .slice q8 C k2, .slice q7 4 k3, .slice q4 C cap4], 29⟩ :: ⟨H, #[.slice q ws.length cap, .slice q2 C cap2, .slice q3 4 cap3, .slice q4 C cap4], 29⟩ :: ⟨R, #[.slice none 0 0, .slice none 0 0, .slice none 0 0, .slice none 0 0], 29⟩ :: (h1 ++ (h2 ++ (h3 ++ h4)))) clcntL ?_
  refine run ?_
  refine finA (cs := #[.slice q9 ws.length k1, .slice q8 C k2, .slice q7 4 k3, .slice q6 C k4]) ⟨_, h1, _, h2, _, h3, _, h4, rfl, hO1, hA2, hA3, hA4, by (exact clcntL)⟩
end Go.Proofs.YtiaelhhmlbfkmaaGreat
