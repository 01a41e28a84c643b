/- Layer 21 (abs): looked at, where no machine lives: the partition, and whether it may be. -/
import Derived.Test.YtiaelhhmlbfkmaaGreatAbE
import Derived.Test.YtiaelhhmlbfkmaaGreatLay2
namespace Go.Proofs.YtiaelhhmlbfkmaaGreat
open Go.RowKit
set_option linter.unusedVariables false
set_option linter.unusedSimpArgs false
set_option maxRecDepth 20000
attribute [local irreducible] Hy St Ops DH DHF DE1 DE2 DE3 DS DCh DWF
theorem mFramesB_e (n cap : Nat) (hn : n < 4611686018427387904) (q : Option Addr) (w : World) : Fn Tryz.prog 149 [.agg #[.slice q n cap]].toArray w [] (fun u _ => u = .int .i64 ((n / 8 : Nat) : Int)) := by
  refine enter Tryz.func149 ?_
  refine run ?_
  intro B
  refine run ?_
  refine op1 (by rfl) (x_quoN rfl rfl n 8 (by rfl) (by rfl) (by decide) (by omega)) ?_
  refine run ?_
  exact fin1 rfl
theorem mFramesA_e (n cap : Nat) (hn : n < 4611686018427387904) (q : Option Addr) (w : World) : Fn Tryz.prog 68 [.agg #[.slice q n cap]].toArray w [] (fun u _ => u = .tuple #[.int .i64 (bif memOk n then ((n / 8 : Nat) : Int) else 0), .int .i64 (bif memOk n then 0 else 1)]) := by
  refine enter Tryz.func68 ?_
  refine run ?_
  intro B
  refine run ?_
  refine callE (fun wc hG => mCheck_e n cap hn q wc) ?_
  refine run ?_
  refine st_cond _ rfl (fun hc => ?_) (fun hc => ?_)
  · have hm : memOk n = false := by cases h : memOk n <;> simp [h] at hc ⊢
    refine run ?_
    refine fin2 ?_
    rw [hm]; rfl
  · have hm : memOk n = true := by cases h : memOk n <;> simp [h] at hc ⊢
    refine run ?_
    refine callE (fun wc hG => mFramesB_e n cap hn q wc) ?_
    refine run ?_
    refine fin2 ?_
    rw [hm]; rfl
theorem rangeA_here {w : World} {b : Nat} {cs : List Value} {t : TypeId} (h : w.heap[b]? = some (.cells cs.toArray t (0, 0))) : w.rangeAt b 0 cs := by
  intro j u hu
  rw [cell_of_block h]
  simpa using hu
theorem look_e {w : World} {wv cv vv rv : Value} {ws : List Nat} {C : Nat} (h : HyAt w wv cv vv rv ws (List.replicate C cpu0) (List.replicate 4 vm0) (List.replicate C noRg)) (hF : 24 ≤ ws.length / 8) (hm : memOk ws.length = true) (hc1 : 1 ≤ C) (hc : C ≤ 3) : Fn Tryz.prog 34 [.agg #[wv, cv, vv, rv]].toArray w [] (fun u hn => ∃ X, u = .tuple #[.pointer (some ⟨X, 0, none⟩), .bool true] ∧ HpLe [⟨X, #[wv, cv, vv, rv, .slice none 0 0, .slice none 0 0, .slice none 0 0, .slice none 0 0], 99⟩] hn) := by
  obtain ⟨q, cap, rfl, hne, _⟩ := h.ws.opened
  have ho2 := h.cs.rows.opened
  have ho3 := h.vs.rows.opened
  have ho4 := h.rs.opened
  have e2 := List.length_replicate (n := C) (a := cpu0)
  have e4 := List.length_replicate (n := C) (a := noRg)
  have e3 : (List.replicate 4 vm0).length = 4 := rfl
  generalize (List.replicate C cpu0).length = n2 at ho2 e2
  generalize (List.replicate C noRg).length = n4 at ho4 e4
  rw [e3] at ho3
  obtain ⟨q2, cap2, rfl, hne2, _⟩ := ho2
  obtain ⟨q3, cap3, rfl, hne3, _⟩ := ho3
  obtain ⟨q4, cap4, rfl, hne4, _⟩ := ho4
  refine enter Tryz.func34 ?_
  refine run ?_
  intro Y X
  refine run ?_
  refine callE (fun wc hG => mFramesA_e ws.length cap (by have := memOk_iff hm; omega) q wc) ?_
  refine runG ?_
  refine st_cond _ rfl (fun hb => ?_) (fun hb => ?_)
  · exfalso
    rw [hm, cond_true, cond_true] at hb
    simp only [Bool.or_eq_true, Bool.not_eq_true', decide_eq_true_eq, decide_eq_false_iff_not, not_true_eq_false, false_or] at hb
    omega
  subst e2
  subst e4
  clear hb
  refine run ?_
  refine loopS (σ := Nat) (fun k => [(61, .int .i64 (k : Int))]) (fun _ => [⟨X, #[.slice q ws.length cap, .slice q2 n4 cap2, .slice q3 4 cap3, .slice q4 n4 cap4, .slice none 0 0, .slice none 0 0, .slice none 0 0, .slice none 0 0], 99⟩, ⟨Y, #[.slice q ws.length cap, .slice q2 n4 cap2, .slice q3 4 cap3, .slice q4 n4 cap4], 29⟩]) (fun k => k ≤ 4) (fun k => 4 - k) 0 (Nat.zero_le _) ?_
  rintro k2 m2 hm2 hk2
  refine run ?_
  refine st_cond _ rfl (fun hc1 => ?_) (fun hc1 => ?_)
  · have hlt : k2 < 4 := by simp at hc1; omega
    obtain ⟨b3, o3, rfl⟩ := hne3 (by simp)
    have hr := h.vs.rows.row (k := k2) (by simpa using hlt)
    rw [show (List.replicate 4 vm0).getD k2 default = vm0 by rw [List.getD_eq_getElem?_getD, List.getElem?_replicate, if_pos hlt]; rfl] at hr
    refine run ?_
    intro V
    refine runG ?_
    refine st_cond _ rfl (fun hd => ?_) (fun hd => absurd hd (by decide))
    refine run ?_
    exact nextS (k2 + 1) hlt
  refine run ?_
  exact fin2 ⟨X, rfl, by (show HpLe [⟨X, #[.slice q ws.length cap, .slice q2 n4 cap2, .slice q3 4 cap3, .slice q4 n4 cap4, .slice none 0 0, .slice none 0 0, .slice none 0 0, .slice none 0 0], 99⟩] _; (exact clcntL))⟩
theorem absPart_e {w : World} {wv cv vv rv : Value} {ws : List Nat} {C : Nat} (h : HyAt w wv cv vv rv ws (List.replicate C cpu0) (List.replicate 4 vm0) (List.replicate C noRg)) (hF : 24 ≤ ws.length / 8) (hm : memOk ws.length = true) (hc1 : 1 ≤ C) (hc : C ≤ 3) : Fn Tryz.prog 16 [.agg #[wv, cv, vv, rv]].toArray w [] (fun u hn => ∃ a1 a2 a3 k1 k2 k3 : _, ∃ n1 n2 n3 : Nat, u = .tuple #[.agg #[.slice a1 n1 k1, .slice a2 n2 k2, .slice a3 n3 k3], .int .i64 0] ∧ ∀ w, Here hn w → PartG w (.slice a1 n1 k1) (.slice a2 n2 k2) (.slice a3 n3 k3) (absL ws C)) := by
  obtain ⟨q, cap, rfl, hne, _⟩ := h.ws.opened
  obtain ⟨q2, cap2, rfl, hne2, _⟩ := h.cs.rows.opened
  obtain ⟨q3, cap3, rfl, hne3, _⟩ := h.vs.rows.opened
  obtain ⟨q4, cap4, rfl, hne4, _⟩ := h.rs.opened
  refine enter Tryz.func16 ?_
  refine run ?_
  intro H R
  refine run ?_
  refine callB (fun wc hG => look_e (h.good hG) hF hm hc1 hc) ?_
  rintro _ hn ⟨X, rfl, hX⟩
  refine ops_le (⟨X, #[.slice q ws.length cap, .slice q2 (List.replicate C cpu0).length cap2, .slice q3 (List.replicate 4 vm0).length cap3, .slice q4 (List.replicate C noRg).length cap4, .slice none 0 0, .slice none 0 0, .slice none 0 0, .slice none 0 0], 99⟩ :: [⟨R, #[.slice none 0 0, .slice none 0 0, .slice none 0 0], 38⟩]) (cnt1 hX) ?_
  refine run ?_
  refine st_cond _ rfl (fun hd => absurd hd (by decide)) (fun hd => ?_)
  refine run ?_
  refine callB (fun wc hG => part_e ⟨rangeA_here (t := 99) (hG.here ⟨X, #[.slice q ws.length cap, .slice q2 (List.replicate C cpu0).length cap2, .slice q3 (List.replicate 4 vm0).length cap3, .slice q4 (List.replicate C noRg).length cap4, .slice none 0 0, .slice none 0 0, .slice none 0 0, .slice none 0 0], 99⟩ mh), h.good hG, hm, hc⟩) ?_
  rintro _ hn2 ⟨a1, a2, a3, k1, k2, k3, m1, m2, m3, rfl, hP⟩
  refine ops_le (⟨R, #[.slice none 0 0, .slice none 0 0, .slice none 0 0], 38⟩ :: hn2) clcntL ?_
  refine run ?_
  refine finA1 ⟨a1, a2, a3, k1, k2, k3, m1, m2, m3, rfl, fun w hw => hP w (hw.sub fun e he => by simp [he])⟩
theorem checkA_e {w : World} {pv gv ov : Value} {P : PtD} (h : PartG w pv gv ov P) : Fn Tryz.prog 39 [.agg #[pv, gv, ov]].toArray w [] (fun u _ => u = .int .i64 (bif P.may then 0 else 1)) := by
  obtain ⟨p, pc, g, gc, o, oc, rfl, rfl, rfl, _⟩ := h.slices
  refine enter Tryz.func39 ?_
  refine run ?_
  intro B X
  refine callE (fun wc hG => mayB_e h hG mh) ?_
  refine run ?_
  refine st_cond _ rfl (fun hc => ?_) (fun hc => ?_)
  · refine run ?_
    refine fin1 ?_
    simp at hc; rw [hc]; rfl
  · refine run ?_
    refine fin1 ?_
    simp at hc; rw [hc]; rfl
theorem absL_own (ws : List Nat) (C : Nat) : ∀ a ∈ (absL ws C).pages, -1 ≤ a.own ∧ a.own ≤ 14 := by
  intro a ha
  obtain ⟨f, _, rfl⟩ := List.mem_map.1 ha
  have := (pageO_le (getL ws 0 f)).1
  omega
theorem absCheck_e {w : World} {wv cv vv rv : Value} {ws : List Nat} {C : Nat} (h : HyAt w wv cv vv rv ws (List.replicate C cpu0) (List.replicate 4 vm0) (List.replicate C noRg)) (hF : 24 ≤ ws.length / 8) (hm : memOk ws.length = true) (hc1 : 1 ≤ C) (hc : C ≤ 3) : Fn Tryz.prog 20 [.agg #[wv, cv, vv, rv]].toArray w [] (fun u _ => u = .int .i64 (bif (absL ws C).may && hosL ws (absL ws C).pages then 0 else 1)) := by
  obtain ⟨q, cap, rfl, hne, _⟩ := h.ws.opened
  obtain ⟨q2, cap2, rfl, hne2, _⟩ := h.cs.rows.opened
  obtain ⟨q3, cap3, rfl, hne3, _⟩ := h.vs.rows.opened
  obtain ⟨q4, cap4, rfl, hne4, _⟩ := h.rs.opened
  refine enter Tryz.func20 ?_
  refine run ?_
  intro H
  refine run ?_
  refine callB (fun wc hG => look_e (h.good hG) hF hm hc1 hc) ?_
  rintro _ hn ⟨X, rfl, hX⟩
  refine ops_le [⟨X, #[.slice q ws.length cap, .slice q2 (List.replicate C cpu0).length cap2, .slice q3 (List.replicate 4 vm0).length cap3, .slice q4 (List.replicate C noRg).length cap4, .slice none 0 0, .slice none 0 0, .slice none 0 0, .slice none 0 0], 99⟩] (cnt1 hX) ?_
  refine run ?_
  refine st_cond _ rfl (fun hd => absurd hd (by decide)) (fun hd => ?_)
  refine run ?_
  refine callB (fun wc hG => part_e ⟨rangeA_here (t := 99) (hG.here ⟨X, #[.slice q ws.length cap, .slice q2 (List.replicate C cpu0).length cap2, .slice q3 (List.replicate 4 vm0).length cap3, .slice q4 (List.replicate C noRg).length cap4, .slice none 0 0, .slice none 0 0, .slice none 0 0, .slice none 0 0], 99⟩ mh), h.good hG, hm, hc⟩) ?_
  rintro _ hn2 ⟨a1, a2, a3, k1, k2, k3, m1, m2, m3, rfl, hP⟩
  refine ops_le (⟨X, #[.slice q ws.length cap, .slice q2 (List.replicate C cpu0).length cap2, .slice q3 (List.replicate 4 vm0).length cap3, .slice q4 (List.replicate C noRg).length cap4, .slice none 0 0, .slice none 0 0, .slice none 0 0, .slice none 0 0], 99⟩ :: hn2) clcntL ?_
  refine run ?_
  intro B
  refine run ?_
  have hPw : ∀ {wc : World} {hp : Hp}, Good w [] hp wc → (∀ e ∈ hn2, e ∈ hp) → PartG wc (.slice a1 m1 k1) (.slice a2 m2 k2) (.slice a3 m3 k3) (absL ws C) := fun hG hs => hP _ (hG.lie hs)
  have hAw : ∀ {wc : World} {hp : Hp}, Good w [] hp wc → (⟨X, #[.slice q ws.length cap, .slice q2 (List.replicate C cpu0).length cap2, .slice q3 (List.replicate 4 vm0).length cap3, .slice q4 (List.replicate C noRg).length cap4, .slice none 0 0, .slice none 0 0, .slice none 0 0, .slice none 0 0], 99⟩ : Blk) ∈ hp → AbAt wc X (.slice q ws.length cap) (.slice q2 (List.replicate C cpu0).length cap2) (.slice q3 (List.replicate 4 vm0).length cap3) (.slice q4 (List.replicate C noRg).length cap4) ws C := fun hG hs => ⟨rangeA_here (t := 99) (hG.here _ hs), h.good hG, hm, hc⟩
  refine callE (fun wc hG => checkA_e (hPw hG (fun e he => by simp [he]))) ?_
  refine runG ?_
  refine callEG (fun hg wc hG => hosted_e (rangeAt_sub (k := 0) (n := 1) (hAw hG (by simp)).x rfl) (hAw hG (by simp)).h.ws (by omega) (absL ws C).pages (hPw hG (fun e he => by simp [he])).pages (absL_own ws C)) ?_
  refine runG ?_
  refine callEG (fun hg wc hG => quiet_e (hAw hG (by simp))) ?_
  refine runG ?_
  generalize hosL ws (absL ws C).pages = b1
  generalize (absL ws C).may = b2
  refine st_cond _ rfl (fun hd => ?_) (fun hd => ?_)
  · refine run ?_
    refine fin1 ?_
    revert hd
    cases b1 <;> cases b2 <;> simp
  have hb : (b2 && b1) = true := by
    revert hd
    cases b1 <;> cases b2 <;> simp
  rw [hb]
  clear hd hb
  refine run ?_
  refine loopS (σ := Nat) (fun k => [(37, .int .i64 (k : Int))]) (fun _ => ⟨B, #[.slice a1 m1 k1, .slice a2 m2 k2, .slice a3 m3 k3], 38⟩ :: ⟨X, #[.slice q ws.length cap, .slice q2 (List.replicate C cpu0).length cap2, .slice q3 (List.replicate 4 vm0).length cap3, .slice q4 (List.replicate C noRg).length cap4, .slice none 0 0, .slice none 0 0, .slice none 0 0, .slice none 0 0], 99⟩ :: hn2) (fun k => k ≤ 4) (fun k => 4 - k) 0 (Nat.zero_le _) ?_
  rintro k m hm2 hk
  refine run ?_
  refine st_cond _ rfl (fun hd => ?_) (fun hd => ?_)
  · have hk4 : k < 4 := by simp at hd; omega
    refine run ?_
    refine callE (fun wc hG => machine_e (hAw hG (by simp)) (hPw hG (fun e he => by simp [he])) rfl k hk4) ?_
    refine run ?_
    refine st_cond _ rfl (fun hd => absurd hd (by decide)) (fun hd => ?_)
    refine runC ?_
    exact nextS (k + 1) hk4
  refine run ?_
  refine loopS (σ := Nat) (fun k => [(52, .int .i64 (k : Int))]) (fun _ => ⟨B, #[.slice a1 m1 k1, .slice a2 m2 k2, .slice a3 m3 k3], 38⟩ :: ⟨X, #[.slice q ws.length cap, .slice q2 (List.replicate C cpu0).length cap2, .slice q3 (List.replicate 4 vm0).length cap3, .slice q4 (List.replicate C noRg).length cap4, .slice none 0 0, .slice none 0 0, .slice none 0 0, .slice none 0 0], 99⟩ :: hn2) (fun k => k ≤ C) (fun k => C - k) 0 (Nat.zero_le _) ?_
  rintro k3 m3 hm3 hk3
  refine run ?_
  refine st_cond _ rfl (fun hd => ?_) (fun hd => ?_)
  · have hlt : k3 < C := by simp at hd; omega
    obtain ⟨b3, o3, rfl⟩ := hne2 (by intro e; have := congrArg List.length e; simp at this; omega)
    have hr3 := h.cs.rows.row (k := k3) (by simpa using hlt)
    rw [show (List.replicate C cpu0).getD k3 default = cpu0 by rw [List.getD_eq_getElem?_getD, List.getElem?_replicate, if_pos hlt]; rfl] at hr3
    have hr4 : w.rangeAt b3 (o3 + k3 * 19 + 17) [cpu0.t.ev, cpu0.t.dv] := rangeAt_sub (k := 17) (n := 2) hr3 rfl
    have hlt' : k3 < (List.replicate C cpu0).length := by rw [List.length_replicate]; exact hlt
    refine run ?_
    refine callE (fun wc hG => sound_e wc X) ?_
    refine run ?_
    refine st_cond _ rfl (fun hd => absurd hd (by decide)) (fun hd => ?_)
    refine runC ?_
    exact nextS (k3 + 1) hlt
  refine run ?_
  exact fin1 rfl
end Go.Proofs.YtiaelhhmlbfkmaaGreat
