/- Layer 20 (boot): the laws BootBoots and BootTwos. -/
import Derived.Test.YtcjbpdejlfomkaaBoB
namespace Go.Proofs.Ytcjbpdejlfomkaa
open Go.RowKit
set_option linter.unusedVariables false
set_option linter.unusedSimpArgs false
set_option maxRecDepth 20000
attribute [local irreducible] Hy St Ops DH DHF DE1 DE2 DE3 DS DCh
/-- Two numbers. -/
abbrev pairV (p : Int × Int) : List Value := [.int .i64 p.1, .int .i64 p.2]
/-- An ask as it lies. -/
structure AskAt20 (w : World) (nv wv cv mv rv lv : Value) (N : List (Int × Int)) (ms : List VmD) (L : List Int) : Prop where
  n : SlAt w nv 2 (N.map pairV)
  ms : VmAt w mv ms
  l : SlAt w lv 1 (L.map inV)
  ws : ∃ p n c, wv = .slice p n c
  cs : ∃ p n c, cv = .slice p n c
  rs : ∃ p n c, rv = .slice p n c
theorem AskAt20.good {w w' : World} {hp : Hp} {nv wv cv mv rv lv : Value} {N : List (Int × Int)} {ms : List VmD} {L : List Int} (h : AskAt20 w nv wv cv mv rv lv N ms L) (hG : Good w [] hp w') : AskAt20 w' nv wv cv mv rv lv N ms L := ⟨h.n.good hG, h.ms.good hG, h.l.good hG, h.ws, h.cs, h.rs⟩
theorem num20_e (n : Int) (w : World) : Fn Try.prog 35 [.int .i64 n].toArray w [] (fun u _ => u = .int .i64 n) := by
  refine enter Try.func35 ?_
  refine run ?_
  exact fin1 rfl
theorem wakes20_e (w : World) : Fn Try.prog 38 [].toArray w [] (fun u _ => u = .bool true) := by
  refine enter Try.func38 ?_
  refine run ?_
  refine callB (fun wc hG => bBoot_e 24 1 wc) ?_
  intro u hn hR
  simp only [BootHR, show mayBoot 24 1 = true from rfl, cond_true] at hR
  obtain ⟨p1, c1, p2, c2, p3, c3, p4, c4, rfl, _⟩ := hR
  refine run ?_
  intro H
  refine run ?_
  refine callE (fun wc hG => num20_e 0 wc) ?_
  refine runC ?_
  exact fin1 rfl
theorem lawBootBoots_e {w : World} {nv wv cv mv rv lv : Value} {N : List (Int × Int)} {ms : List VmD} {L : List Int} (h : AskAt20 w nv wv cv mv rv lv N ms L) : Fn Try.prog 5 [.agg #[nv, wv, cv, mv, rv, lv]].toArray w [] (fun u _ => u = .bool true) := by
  have h' := h
  obtain ⟨q1, c1, rfl, hne1, _⟩ := h.n.opened
  obtain ⟨q2, n2, c2, rfl⟩ := h.ws
  obtain ⟨q3, n3, c3, rfl⟩ := h.cs
  obtain ⟨q4, c4, rfl, _, _⟩ := h.ms.rows.opened
  obtain ⟨q5, n5, c5, rfl⟩ := h.rs
  obtain ⟨q6, c6, rfl, _, _⟩ := h.l.opened
  refine enter Try.func5 ?_
  refine run ?_
  intro B
  refine loopS (σ := Nat) (fun k => [(3, .int .i64 (k : Int))]) (fun _ => [⟨B, #[.slice q1 N.length c1, .slice q2 n2 c2, .slice q3 n3 c3, .slice q4 ms.length c4, .slice q5 n5 c5, .slice q6 L.length c6], 76⟩]) (fun k => k ≤ N.length) (fun k => N.length - k) 0 (Nat.zero_le _) ?_
  rintro k m hm hk
  refine runG ?_
  refine st_cond _ rfl (fun hc => ?_) (fun hc => ?_)
  · have hlt : k < N.length := by simp at hc; omega
    obtain ⟨b1, o1, rfl⟩ := hne1 (by intro e; rw [e] at hlt; simp at hlt)
    have hr := h.n.row hlt
    generalize N.getD k default = a at hr
    have hr0 := rangeAt_cell (k := 0) hr rfl
    have hr1 := rangeAt_cell (k := 1) hr rfl
    cases hmay : mayBoot a.1 a.2 with
    | false =>
      refine run ?_
      refine drawED 17 [0, 1, 2, 3, 4, 5, 6, 7, 8, 9, 10, 11] [12, 16] [13, 14, 15] [18] [17] ?_
      refine runS ?_
      refine eCall (fun wc hG => bBoot_e a.1 a.2 wc) (bBoot_e a.1 a.2 w).some ?_
      refine eAlloc ?_
      refine eNil ?_
      rintro _ _ ⟨X, rfl, rfl⟩ u hn hR
      simp only [BootHR, hmay, cond_false] at hR
      subst hR
      refine dMove ?_
      refine dExtract ?_
      refine dExtract ?_
      refine dNil ?_
      refine dAssign ?_
      refine dNil ?_
      simp only [DN, List.cons_append, List.nil_append, List.append_nil]
      refine cPut ?_
      refine dc_nil ?_
      refine opsC ?_
      refine run ?_
      refine drawAll ?_
      refine runD ?_
      refine callD (fun wc hG => mayBoot_e a.1 a.2 wc) ?_
      rw [hmay]
      refine runD ?_
      refine runC ?_
      refine callE (fun wc hG => num20_e 1 wc) ?_
      refine runC ?_
      refine callEG (fun _ wc hG => eqHyp_e [] [] [] [] [] [] _ _ _ _ _ _ _ _ rfl rfl (slAt_nil _ _) (slAt_nil _ _) ⟨slAt_nil _ _, by simp, by simp⟩ ⟨slAt_nil _ _, by simp, by simp⟩ ⟨slAt_nil _ _, by simp, by simp, by simp⟩ ⟨slAt_nil _ _, by simp, by simp, by simp⟩ (slAt_nil _ _) (slAt_nil _ _)) ?_
      refine runC ?_
      refine nextS (k + 1) hlt (h2 := by (refine hpLe_cnt fun a => ?_; simp only [cntB_app, cntB_cons, cntB_nil]; omega))
    | true =>
      refine run ?_
      refine drawED 17 [0, 1, 2, 3, 4, 5, 6, 7, 8, 9, 10, 11] [12, 16] [13, 14, 15] [18] [17] ?_
      refine runS ?_
      refine eCall (fun wc hG => bBoot_e a.1 a.2 wc) (bBoot_e a.1 a.2 w).some ?_
      refine eAlloc ?_
      refine eNil ?_
      rintro _ _ ⟨X, rfl, rfl⟩ u hn hR
      simp only [BootHR, hmay, cond_true] at hR
      obtain ⟨p1, k1, p2, k2, p3, k3, p4, k4, rfl, hP⟩ := hR
      refine dMove ?_
      refine dExtract ?_
      refine dExtract ?_
      refine dNil ?_
      refine dAssign ?_
      refine dNil ?_
      simp only [DN, List.cons_append, List.nil_append, List.append_nil]
      refine cPut ?_
      refine dc_nil ?_
      refine opsC ?_
      refine run ?_
      refine drawAll ?_
      refine runD ?_
      refine callD (fun wc hG => mayBoot_e a.1 a.2 wc) ?_
      rw [hmay]
      refine runD ?_
      refine runC ?_
      have hm2 := hmay
      simp only [mayBoot, PtD.btw, Bool.and_eq_true, decide_eq_true_eq] at hm2
      refine drawC 18 17 [0, 1, 2, 3, 4, 5, 6, 7, 8, 9, 10, 11, 12, 13, 14, 15, 16] [17] (⟨X, #[.slice p1 (a.1.toNat * 8) k1, .slice p2 a.2.toNat k2, .slice p3 4 k3, .slice p4 a.2.toNat k4], 74⟩ :: (hn ++ [⟨B, #[.slice (some ⟨b1, o1, none⟩) N.length c1, .slice q2 n2 c2, .slice q3 n3 c3, .slice q4 ms.length c4, .slice q5 n5 c5, .slice q6 L.length c6], 76⟩])) ?_
      refine runZG ?_
      refine sCallB (fun wc hx hG => num20_e 0 wc) ?_
      refine runZG ?_
      obtain ⟨F, hF⟩ : ∃ k : Nat, a.1 = (k : Int) := ⟨a.1.toNat, by omega⟩
      obtain ⟨C, hC⟩ : ∃ k : Nat, a.2 = (k : Int) := ⟨a.2.toNat, by omega⟩
      rw [hF, hC, Int.toNat_natCast, Int.toNat_natCast] at hP ⊢
      refine cCallG (fun wc hG => rBoot_e F C (by omega) (by omega) (by omega) (by omega) wc) ?_
      rintro u hn2 ⟨r1, d1, r2, d2, r3, d3, r4, d4, rfl, hP2⟩
      refine dc_nil ?_
      refine opsC ?_
      refine runC ?_
      refine callEG (fun _ wc hG => by
        have h1 := hP wc (fun b hb => hG.here b (by simp [hb]))
        have h2 := hP2 wc (fun b hb => hG.here b (by simp [hb]))
        exact eqHyp_e _ _ _ _ _ _ _ _ _ _ _ _ _ _ rfl rfl h1.ws h2.ws h1.cs h2.cs h1.vs h2.vs h1.rs h2.rs) ?_
      refine runC ?_
      refine nextS (k + 1) hlt (h2 := by (refine hpLe_cnt fun a => ?_; simp only [cntB_app, cntB_cons, cntB_nil]; omega))
  · refine run ?_
    refine callE (fun wc hG => wakes20_e wc) ?_
    refine run ?_
    exact fin1 rfl
/-- Stage 2's root of a machine. -/
def liveB (ms : List VmD) (vm : Int) : Bool := decide (1 ≤ vm) && decide (vm ≤ (ms.length : Int)) && (ms.getD (vm.toNat - 1) default).live && decide (0 < (ms.getD (vm.toNat - 1) default).fs.length)
def twoL (ms : List VmD) (vm : Int) : Option (Int × Int) :=
  bif decide (vm = 0) then some (0, 0)
  else bif liveB ms vm then some ((ms.getD (vm.toNat - 1) default).fs.getD 0 0, (ms.getD (vm.toNat - 1) default).vmid) else none
def twoV (r : Option (Int × Int)) : Value := match r with
  | some x => .agg #[.bool true, .int .i64 x.1, .int .i64 x.2]
  | none => .agg #[.bool false, .int .i64 0, .int .i64 0]
theorem VmAt.first {w : World} {v : Value} {ms : List VmD} (h : VmAt w v ms) {k : Nat} (hk : k < ms.length) (h0 : 0 < (ms.getD k default).fs.length) : ∃ b o, (ms.getD k default).fp = some ⟨b, o, none⟩ ∧ w.rangeAt b o [.int .i64 ((ms.getD k default).fs.getD 0 0)] := by
  have h1 := h.fs _ (getD_mem hk)
  generalize ms.getD k default = m at h1 h0 ⊢
  obtain ⟨live, dying, vmid, fs, fp, fc, fr, rp, rc, vs, vp, vk⟩ := m
  dsimp only [VmD.fv] at h1 h0 ⊢
  obtain ⟨q, c, e, hne, _⟩ := h1.opened
  injection e with e1 _ e3
  subst e1
  obtain ⟨b, o, rfl⟩ := hne (by intro e; rw [e] at h0; simp at h0)
  refine ⟨b, o, rfl, ?_⟩
  have := h1.row h0
  simpa [inV] using this
theorem bTwo_e {w : World} {q2 q3 q5 : Option Addr} {n2 n3 n5 c2 c3 c5 : Nat} {mv : Value} {ms : List VmD} (h : VmAt w mv ms) (vm : Int) (hv : -10 ≤ vm ∧ vm ≤ 10) : Fn Try.prog 43 [.agg #[.slice q2 n2 c2, .slice q3 n3 c3, mv, .slice q5 n5 c5], .int .i64 vm].toArray w [] (fun u _ => u = .tuple #[twoV (twoL ms vm), .int .i64 (bif (twoL ms vm).isSome then 0 else 1)]) := by
  obtain ⟨q4, c4, rfl, hne, _⟩ := h.rows.opened
  refine enter Try.func43 ?_
  refine run ?_
  intro B C
  refine st_cond _ rfl (fun hc => ?_) (fun hc => ?_)
  · refine run ?_
    simp only [twoL, hc, cond_true]
    exact finA1 (cs := #[.bool true, .int .i64 0, .int .i64 0]) rfl
  by_cases hr : 1 ≤ vm ∧ vm ≤ (ms.length : Int)
  · obtain ⟨k, rfl⟩ : ∃ k : Nat, vm = (k : Int) + 1 := ⟨(vm - 1).toNat, by omega⟩
    have hk : k < ms.length := by omega
    obtain ⟨b4, o4, rfl⟩ := hne (by intro e; rw [e] at hk; simp at hk)
    have hrow := h.rows.row hk
    have hfst := h.first hk
    have e2 : ((k : Int) + 1).toNat - 1 = k := by omega
    have e : (decide ((k : Int) + 1 < 1) || decide ((ms.length : Int) < (k : Int) + 1)) = false := by simp; omega
    have e1 : (k : Int) + 1 - 1 = (k : Int) := by omega
    have e3 : decide (1 ≤ (k : Int) + 1) = true := by simp; omega
    have e4 : decide ((k : Int) + 1 ≤ (ms.length : Int)) = true := by simp; omega
    simp only [twoL, liveB, hc, cond_false, e2, e3, e4, Bool.true_and]
    generalize ms.getD k default = m at hrow hfst
    refine runG ?_
    simp only [e, e1]
    refine runG ?_
    simp only [Int.toNat_natCast, show wnt false false = true from rfl, gv_true]
    have hl := rangeAt_cell (k := 0) hrow rfl
    have hfv := rangeAt_cell (k := 3) hrow rfl
    obtain ⟨live, dying, vmid, fs, fp, fc, fr, rp, rc, vs, vp, vk⟩ := m
    dsimp only [VmD.fv, VmD.rv, VmD.vv, vmV] at hrow hfst hl hfv ⊢
    refine runG ?_
    cases live with
    | false =>
      simp only [Bool.false_and, cond_false]
      refine runC ?_
      exact finA1 (cs := #[.bool false, .int .i64 0, .int .i64 0]) rfl
    | true =>
    simp only [e1, Int.toNat_natCast, Bool.not_true, Bool.or_false, show wnt false false = true from rfl, gv_true, Bool.true_and]
    refine runG ?_
    refine st_cond _ rfl (fun hc2 => ?_) (fun hc2 => ?_)
    · have hz : decide (0 < fs.length) = false := by simp at hc2 ⊢; exact hc2
      rw [hz, cond_false]
      refine run ?_
      exact finA1 (cs := #[.bool false, .int .i64 0, .int .i64 0]) rfl
    have hz : 0 < fs.length := by rcases Nat.eq_zero_or_pos fs.length with h | h; · simp [h] at hc2
                                  · exact h
    rw [show decide (0 < fs.length) = true from decide_eq_true hz, cond_true]
    obtain ⟨b5, o5, rfl, hf5⟩ := hfst hz
    have hf50 := rangeAt_cell0 hf5
    refine run ?_
    simp only [e1, Int.toNat_natCast]
    refine run ?_
    intro X
    refine run ?_
    refine drawN 7 ?_
    refine runD ?_
    refine run ?_
    exact finA1 (cs := #[.bool true, .int .i64 (fs.getD 0 0), .int .i64 vmid]) rfl
  · have e : (decide (vm < 1) || decide ((ms.length : Int) < vm)) = true := by
      cases h1 : (decide (vm < 1) || decide ((ms.length : Int) < vm)) with
      | true => rfl
      | false => simp at h1; omega
    have ht : twoL ms vm = none := by
      have e4 : (decide (1 ≤ vm) && decide (vm ≤ (ms.length : Int))) = false := by
        cases h1 : (decide (1 ≤ vm) && decide (vm ≤ (ms.length : Int))) with
        | false => rfl
        | true => simp at h1; omega
      simp only [twoL, liveB, hc, cond_false, e4, Bool.false_and]
    rw [ht]
    refine runG ?_
    simp only [e]
    refine runC ?_
    exact finA1 (cs := #[.bool false, .int .i64 0, .int .i64 0]) rfl
theorem rLive_e {w : World} {q2 q3 q5 : Option Addr} {n2 n3 n5 c2 c3 c5 : Nat} {mv : Value} {ms : List VmD} (h : VmAt w mv ms) (vm : Int) (hv : -10 ≤ vm ∧ vm ≤ 10) : Fn Try.prog 79 [.agg #[.slice q2 n2 c2, .slice q3 n3 c3, mv, .slice q5 n5 c5], .int .i64 vm].toArray w [] (fun u _ => u = .bool (liveB ms vm)) := by
  obtain ⟨q4, c4, rfl, hne, _⟩ := h.rows.opened
  refine enter Try.func79 ?_
  refine run ?_
  intro B
  by_cases hr : 1 ≤ vm ∧ vm ≤ (ms.length : Int)
  · obtain ⟨k, rfl⟩ : ∃ k : Nat, vm = (k : Int) + 1 := ⟨(vm - 1).toNat, by omega⟩
    have hk : k < ms.length := by omega
    obtain ⟨b4, o4, rfl⟩ := hne (by intro e; rw [e] at hk; simp at hk)
    have hrow := h.rows.row hk
    have e2 : ((k : Int) + 1).toNat - 1 = k := by omega
    have e1 : (k : Int) + 1 - 1 = (k : Int) := by omega
    have e3 : decide (1 ≤ (k : Int) + 1) = true := by simp; omega
    have e4 : decide ((k : Int) + 1 ≤ (ms.length : Int)) = true := by simp; omega
    have e5 : (decide (1 ≤ (k : Int) + 1) && decide ((k : Int) + 1 ≤ (ms.length : Int))) = true := by rw [e3, e4]; rfl
    simp only [liveB, e2, e3, e4, Bool.true_and]
    generalize ms.getD k default = m at hrow
    have hl := rangeAt_cell (k := 0) hrow rfl
    have hfv := rangeAt_cell (k := 3) hrow rfl
    obtain ⟨live, dying, vmid, fs, fp, fc, fr, rp, rc, vs, vp, vk⟩ := m
    dsimp only [VmD.fv, VmD.rv, VmD.vv, vmV] at hrow hl hfv ⊢
    refine runG ?_
    simp only [e4, Bool.true_and, show wnt true true = true from rfl, gv_true]
    refine runG ?_
    simp only [e1]
    refine runG ?_
    simp only [e1, Int.toNat_natCast, show wnt true true = true from rfl, gv_true]
    refine runG ?_
    cases live with
    | false =>
      refine runC ?_
      exact fin1 rfl
    | true =>
    simp only [Bool.true_and, show wnt true true = true from rfl, gv_true]
    refine runG ?_
    simp only [e1]
    refine runG ?_
    simp only [e1, Int.toNat_natCast, Bool.true_and, show wnt true true = true from rfl, gv_true]
    refine runG ?_
    refine fin1 ?_
    simp
  · have e : (decide (1 ≤ vm) && decide (vm ≤ (ms.length : Int))) = false := by
      cases h1 : (decide (1 ≤ vm) && decide (vm ≤ (ms.length : Int))) with
      | false => rfl
      | true => simp at h1; omega
    have hL : liveB ms vm = false := by simp only [liveB, e, Bool.false_and]
    rw [hL]
    refine runG ?_
    simp only [e]
    refine runC ?_
    exact fin1 rfl
theorem rTwo_e {w : World} {q2 q3 q5 : Option Addr} {n2 n3 n5 c2 c3 c5 : Nat} {mv : Value} {ms : List VmD} (h : VmAt w mv ms) (vm : Int) (hv : -10 ≤ vm ∧ vm ≤ 10) : Fn Try.prog 44 [.agg #[.slice q2 n2 c2, .slice q3 n3 c3, mv, .slice q5 n5 c5], .int .i64 vm].toArray w [] (fun u _ => u = .tuple #[twoV (twoL ms vm), .bool (twoL ms vm).isSome]) := by
  have h' := h
  obtain ⟨q4, c4, rfl, hne, _⟩ := h.rows.opened
  refine enter Try.func44 ?_
  refine run ?_
  intro B C
  refine st_cond _ rfl (fun hc => ?_) (fun hc => ?_)
  · refine run ?_
    simp only [twoL, hc, cond_true]
    exact finA1 (cs := #[.bool true, .int .i64 0, .int .i64 0]) rfl
  refine run ?_
  refine callE (fun wc hG => rLive_e (h'.good hG) vm hv) ?_
  refine run ?_
  refine st_cond _ rfl (fun hc2 => ?_) (fun hc2 => ?_)
  · have hl : twoL ms vm = none := by simp only [twoL, hc, cond_false]; rw [show liveB ms vm = false by simpa using hc2]; rfl
    rw [hl]
    refine run ?_
    exact finA1 (cs := #[.bool false, .int .i64 0, .int .i64 0]) rfl
  have hL : liveB ms vm = true := by simpa using hc2
  have hL2 := hL
  simp only [liveB, Bool.and_eq_true, decide_eq_true_eq] at hL2
  obtain ⟨⟨⟨hL3, hL4⟩, _⟩, hL5⟩ := hL2
  obtain ⟨k, rfl⟩ : ∃ k : Nat, vm = (k : Int) + 1 := ⟨(vm - 1).toNat, by omega⟩
  have hk : k < ms.length := by omega
  have e2 : ((k : Int) + 1).toNat - 1 = k := by omega
  have e1 : (k : Int) + 1 - 1 = (k : Int) := by omega
  rw [e2] at hL5
  obtain ⟨b4, o4, rfl⟩ := hne (by intro e; rw [e] at hk; simp at hk)
  have hrow := h'.rows.row hk
  obtain ⟨b5, o5, hb5, hf5⟩ := h'.first hk hL5
  simp only [twoL, hc, cond_false, hL, cond_true, e2]
  generalize ms.getD k default = m at hrow hL5 hb5 hf5
  have hfv := rangeAt_cell (k := 3) hrow rfl
  have hvi := rangeAt_cell (k := 2) hrow rfl
  obtain ⟨live, dying, vmid, fs, fp, fc, fr, rp, rc, vs, vp, vk⟩ := m
  dsimp only [VmD.fv, VmD.rv, VmD.vv, vmV] at hrow hL5 hb5 hf5 hfv hvi ⊢
  subst hb5
  have hf50 := rangeAt_cell0 hf5
  refine run ?_
  refine drawN 17 ?_
  refine runD ?_
  simp only [e1, Int.toNat_natCast]
  refine runD ?_
  simp only [e1, Int.toNat_natCast]
  refine runD ?_
  refine run ?_
  exact finA1 (cs := #[.bool true, .int .i64 (fs.getD 0 0), .int .i64 vmid]) rfl
theorem lawBootTwos_e {w : World} {nv wv cv mv rv lv : Value} {N : List (Int × Int)} {ms : List VmD} {L : List Int} (h : AskAt20 w nv wv cv mv rv lv N ms L) : Fn Try.prog 7 [.agg #[nv, wv, cv, mv, rv, lv]].toArray w [] (fun u _ => u = .bool true) := by
  have h' := h
  obtain ⟨q1, c1, rfl, hne1, _⟩ := h.n.opened
  obtain ⟨q2, n2, c2, rfl⟩ := h.ws
  obtain ⟨q3, n3, c3, rfl⟩ := h.cs
  obtain ⟨q4, c4, rfl, _, _⟩ := h.ms.rows.opened
  obtain ⟨q5, n5, c5, rfl⟩ := h.rs
  obtain ⟨q6, c6, rfl, hne6, _⟩ := h.l.opened
  refine enter Try.func7 ?_
  refine run ?_
  intro B
  refine runG ?_
  refine st_cond _ rfl (fun hc => ?_) (fun hc => ?_)
  · refine run ?_
    exact fin1 rfl
  have hcL : ms.length ≤ 100 ∧ L.length ≤ 300 := by simp at hc; omega
  refine run ?_
  refine loopS (σ := Nat) (fun k => [(3, .int .i64 (k : Int))]) (fun _ => [⟨B, #[.slice q1 N.length c1, .slice q2 n2 c2, .slice q3 n3 c3, .slice q4 ms.length c4, .slice q5 n5 c5, .slice q6 L.length c6], 76⟩]) (fun k => k ≤ L.length) (fun k => L.length - k) 0 (Nat.zero_le _) ?_
  rintro k m hm hk
  refine run ?_
  refine st_cond _ rfl (fun hc2 => ?_) (fun hc2 => ?_)
  · have hlt : k < L.length := by simp at hc2; omega
    obtain ⟨b6, o6, rfl⟩ := hne6 (by intro e; rw [e] at hlt; simp at hlt)
    have hr := rangeAt_cell0 (h.l.row hlt)
    simp only [Nat.mul_one] at hr
    refine run ?_
    refine drawAll ?_
    refine runD ?_
    refine opD (x_remN rfl rfl k 3 rfl rfl (by decide)) ?_
    refine runD ?_
    refine callD (fun wc hG => bLeaf_e _ _ wc) ?_
    refine runD ?_
    refine opD (x_remN rfl rfl k 3 rfl rfl (by decide)) ?_
    refine runD ?_
    refine callD (fun wc hG => rLeaf_e _ _ wc) ?_
    refine runD ?_
    refine run ?_
    refine st_cond _ rfl (fun hp => absurd hp (by simp [eqLeaves, eqLeaf])) (fun hp => ?_)
    refine run ?_
    exact nextS (k + 1) hlt
  refine run ?_
  refine loopS (σ := Int) (fun z => [(4, .int .i64 z)]) (fun _ => [⟨B, #[.slice q1 N.length c1, .slice q2 n2 c2, .slice q3 n3 c3, .slice q4 ms.length c4, .slice q5 n5 c5, .slice q6 L.length c6], 76⟩]) (fun z => -1 ≤ z ∧ z ≤ 6) (fun z => (6 - z).toNat) (-1) ⟨by decide, by decide⟩ ?_
  rintro z m hm ⟨hz1, hz2⟩
  refine run ?_
  refine st_cond _ rfl (fun hc3 => ?_) (fun hc3 => ?_)
  · have hz5 : z ≤ 5 := by simpa using hc3
    have hA := fun (wc : World) (hG : Good w [] [⟨B, #[.slice q1 N.length c1, .slice q2 n2 c2, .slice q3 n3 c3, .slice q4 ms.length c4, .slice q5 n5 c5, .slice q6 L.length c6], 76⟩] wc) => bTwo_e (q2 := q2) (q3 := q3) (q5 := q5) (n2 := n2) (n3 := n3) (n5 := n5) (c2 := c2) (c3 := c3) (c5 := c5) (h'.ms.good hG) z (by omega)
    have hB := fun (wc : World) (hp : Hp) (hG : Good w [] hp wc) => rTwo_e (q2 := q2) (q3 := q3) (q5 := q5) (n2 := n2) (n3 := n3) (n5 := n5) (c2 := c2) (c3 := c3) (c5 := c5) (h'.ms.good hG) z (by omega)
    refine run ?_
    cases ht : twoL ms z with
    | none =>
      simp only [ht, twoV, Option.isSome_none, cond_false] at hA hB
      refine callE (fun wc hG => hA wc hG) ?_
      refine run ?_
      intro R1
      refine run ?_
      refine callE (fun wc hG => hB wc _ hG) ?_
      refine run ?_
      intro R2
      refine runC ?_
      refine callE (fun wc hG => num20_e 1 wc) ?_
      refine runC ?_
      refine callEG (fun _ wc hG => num20_e 1 wc) ?_
      refine runC ?_
      exact nextS (z + 1) ⟨by omega, by omega⟩ (h2 := by (refine hpLe_cnt fun a => ?_; simp only [cntB_app, cntB_cons, cntB_nil]; omega))
    | some x =>
      simp only [ht, twoV, Option.isSome_some, cond_true] at hA hB
      refine callE (fun wc hG => hA wc hG) ?_
      refine run ?_
      intro R1
      refine run ?_
      refine callE (fun wc hG => hB wc _ hG) ?_
      refine run ?_
      intro R2
      refine runC ?_
      refine callE (fun wc hG => num20_e 0 wc) ?_
      refine runC ?_
      refine st_cond _ rfl (fun hp => absurd hp (by simp [eqLeaves, eqLeaf])) (fun hp => ?_)
      refine run ?_
      exact nextS (z + 1) ⟨by omega, by omega⟩ (h2 := by (refine hpLe_cnt fun a => ?_; simp only [cntB_app, cntB_cons, cntB_nil]; omega))
  refine run ?_
  refine callE (fun wc hG => wakes20_e wc) ?_
  refine run ?_
  exact fin1 rfl
end Go.Proofs.Ytcjbpdejlfomkaa
